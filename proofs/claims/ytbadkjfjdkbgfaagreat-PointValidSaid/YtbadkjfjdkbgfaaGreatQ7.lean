/- The walks of points, first part. Conditions: none.
   The walks of the reference's points, first part. Conditions: none.
   The walks of the reference's points, second part. Conditions: none.
   The walks of the reference's points, third part. Conditions: none.
   The examples of the chapter on points in the walks. Conditions: each lemma's own.
   The walk of the examples of the chapter on points. Conditions: none.
   The arguments of a row, opened: what they stand for. Conditions: none (lemmas).
   The arguments of the rows, opened. Conditions: none.
   Statements on points, in plain terms. Conditions: each lemma's own.
   Slices of points in the walks. Conditions: each lemma's own.
   Points of any numbers in the walks. Conditions: each lemma's own.
   The walks of smallness of points. Conditions: none.
   The walks of Valid of points. Conditions: none. -/
import Derived.WalkKit
import Derived.ProofKit
import Derived.OpenShut
import Derived.ChangeOld
import Derived.Below
import Derived.Carry
import Derived.ChangeSlices
import Derived.Test.YtbadkjfjdkbgfaaGreatRows
import Derived.Test.YtbadkjfjdkbgfaaGreatQ6
set_option linter.unusedVariables false
set_option linter.unusedSimpArgs false
set_option linter.unusedSimpArgs false
set_option linter.unusedVariables false
set_option maxRecDepth 20000
namespace Go.Proofs.YtbadkjfjdkbgfaaGreat
open Go Go.PL Go.RL
set_option maxHeartbeats 4000000 in
theorem c_point_zero :
    Ret Tryz.prog 75 [] (.e (.a (ratC 0))) := by
  refine ret_of_body (md := {}) Tryz.func75 (by kernel_rfl) rfl ?_
  simp only [Tryz.f75, List.map_cons, List.map_nil, List.length_cons, List.length_nil, Nat.zero_add, Nat.reduceAdd, Nat.reduceSub, List.reduceReplicate, List.cons_append, List.nil_append]
  refine pwx_sr 1 [] (by rfl) (fun K1 hK1 => ?_)
  simp (disch := omega) only [go_sem]
  refine hK1 _ ?_
  clear hK1 K1
  refine pwx_sr 0 [] (by rfl) (fun K2 hK2 => ?_)
  refine rgnX_take 1 (fun K3 hK3 => ?_)
  simp (disch := omega) only [go_sem]
  refine ⟨_, c_rational_FromInt64 _ (by omega) (by omega), ?_⟩
  refine hK3 _ ?_
  simp (disch := omega) only [go_sem]
  refine hK2 _ ?_
  clear hK3 K3 hK2 K2
  refine pwp_ret ?_
  refine ⟨Or.inr rfl, ?_⟩
  simp (disch := omega) only [go_sem]
  all_goals rfl
set_option maxHeartbeats 4000000 in
theorem c_point_coordinate (a b c : Rat) :
    Ret Tryz.prog 57 [.a (ratC a), .a (ratC b), .a (ratC c)] (.e (.a (ratC (a) ++ (ratC (b) ++ ratC (rC b c))))) := by
  refine ret_of_body (md := {}) Tryz.func57 (by kernel_rfl) rfl ?_
  simp only [Tryz.f57, List.map_cons, List.map_nil, List.length_cons, List.length_nil, Nat.zero_add, Nat.reduceAdd, Nat.reduceSub, List.reduceReplicate, List.cons_append, List.nil_append]
  refine pwx_sr 4 [] (by rfl) (fun K1 hK1 => ?_)
  simp (disch := omega) only [go_sem]
  refine hK1 _ ?_
  clear hK1 K1
  refine pwp_seq ?_
  refine pwx_sr 0 [] (by rfl) (fun K2 hK2 => ?_)
  refine rgnX_take 2 (fun K3 hK3 => ?_)
  simp (disch := omega) only [go_sem]
  refine ⟨_, c_rational_Sign _, ?_⟩
  refine hK3 _ ?_
  simp (disch := omega) only [go_sem]
  refine hK2 _ ?_
  clear hK3 K3 hK2 K2
  refine pwp_cond (b := _) (by rfl) (fun hb0 => ?_) (fun hb0 => ?_)
  · first | replace hb0 := of_decide_eq_true hb0 | replace hb0 := of_decide_eq_false hb0 | skip
    refine pwx_region 0 [] (by rfl) (fun K4 hK4 => ?_)
    refine rgnX_take 1 (fun K5 hK5 => ?_)
    simp (disch := omega) only [go_sem]
    refine ⟨_, c_point_zero, ?_⟩
    refine hK5 _ ?_
    simp (disch := omega) only [go_sem]
    refine hK4 _ ?_
    clear hK5 K5 hK4 K4
    refine n_then ?_
    refine pwx_sr 0 [] (by rfl) (fun K6 hK6 => ?_)
    simp (disch := omega) only [go_sem]
    refine hK6 _ ?_
    clear hK6 K6
    refine pwp_ret ?_
    refine ⟨Or.inr rfl, ?_⟩
    simp (disch := omega) only [go_sem]
    all_goals first | rw [rC_0 (by assumption)] | rw [rC_1 (by assumption)]
  · first | replace hb0 := of_decide_eq_true hb0 | replace hb0 := of_decide_eq_false hb0 | skip
    refine pwp_skip ?_
    refine n_then ?_
    refine pwx_sr 0 [] (by rfl) (fun K7 hK7 => ?_)
    simp (disch := omega) only [go_sem]
    refine hK7 _ ?_
    clear hK7 K7
    refine pwp_ret ?_
    refine ⟨Or.inr rfl, ?_⟩
    simp (disch := omega) only [go_sem]
    all_goals first | rw [rC_0 (by assumption)] | rw [rC_1 (by assumption)]
set_option maxHeartbeats 4000000 in
theorem c_point_X (a b d e c : Rat) :
    Ret Tryz.prog 17 [.a (ratC (a) ++ (ratC (b) ++ (ratC (d) ++ (ratC (e) ++ ratC (c)))))] (.e (.a (ratC (a) ++ (ratC (b) ++ ratC (rC b c))))) := by
  refine ret_of_body (md := {}) Tryz.func17 (by kernel_rfl) rfl ?_
  simp only [Tryz.f17, List.map_cons, List.map_nil, List.length_cons, List.length_nil, Nat.zero_add, Nat.reduceAdd, Nat.reduceSub, List.reduceReplicate, List.cons_append, List.nil_append]
  refine pwx_sr 2 [] (by rfl) (fun K1 hK1 => ?_)
  simp (disch := omega) only [go_sem]
  refine hK1 _ ?_
  clear hK1 K1
  refine pwx_sr 0 [] (by rfl) (fun K2 hK2 => ?_)
  refine rgnX_take 7 (fun K3 hK3 => ?_)
  simp (disch := omega) only [go_sem]
  refine ⟨_, c_point_coordinate _ _ _, ?_⟩
  refine hK3 _ ?_
  simp (disch := omega) only [go_sem]
  refine hK2 _ ?_
  clear hK3 K3 hK2 K2
  refine pwp_ret ?_
  refine ⟨Or.inr rfl, ?_⟩
  simp (disch := omega) only [go_sem]
set_option maxHeartbeats 4000000 in
theorem c_point_Y (a b d e c : Rat) :
    Ret Tryz.prog 18 [.a (ratC (a) ++ (ratC (b) ++ (ratC (d) ++ (ratC (e) ++ ratC (c)))))] (.e (.a (ratC (d) ++ (ratC (e) ++ ratC (rC e c))))) := by
  refine ret_of_body (md := {}) Tryz.func18 (by kernel_rfl) rfl ?_
  simp only [Tryz.f18, List.map_cons, List.map_nil, List.length_cons, List.length_nil, Nat.zero_add, Nat.reduceAdd, Nat.reduceSub, List.reduceReplicate, List.cons_append, List.nil_append]
  refine pwx_sr 2 [] (by rfl) (fun K1 hK1 => ?_)
  simp (disch := omega) only [go_sem]
  refine hK1 _ ?_
  clear hK1 K1
  refine pwx_sr 0 [] (by rfl) (fun K2 hK2 => ?_)
  refine rgnX_take 7 (fun K3 hK3 => ?_)
  simp (disch := omega) only [go_sem]
  refine ⟨_, c_point_coordinate _ _ _, ?_⟩
  refine hK3 _ ?_
  simp (disch := omega) only [go_sem]
  refine hK2 _ ?_
  clear hK3 K3 hK2 K2
  refine pwp_ret ?_
  refine ⟨Or.inr rfl, ?_⟩
  simp (disch := omega) only [go_sem]
set_option maxHeartbeats 4000000 in
theorem c_point_reduced (a b d e c : Rat) :
    Ret Tryz.prog 53 [.a (ratC (a) ++ (ratC (b) ++ (ratC (d) ++ (ratC (e) ++ ratC (c)))))] (.e (.a (ratC (a) ++ (ratC (b) ++ (ratC (d) ++ (ratC (e) ++ ratC (pC b e c))))))) := by
  refine ret_of_body (md := {}) Tryz.func53 (by kernel_rfl) rfl ?_
  simp only [Tryz.f53, List.map_cons, List.map_nil, List.length_cons, List.length_nil, Nat.zero_add, Nat.reduceAdd, Nat.reduceSub, List.reduceReplicate, List.cons_append, List.nil_append]
  refine pwx_sr 2 [] (by rfl) (fun K1 hK1 => ?_)
  simp (disch := omega) only [go_sem]
  refine hK1 _ ?_
  clear hK1 K1
  refine pwp_seq ?_
  by_cases h0 : b = 0
  · refine pwx_sr 0 [some 3, some 4, some 5, some 6, some 7, some 8, some 9, some 10, some 11, some 12] (by rfl) (fun K2 hK2 => ?_)
    refine rgnX_take 3 (fun K3 hK3 => ?_)
    simp (disch := omega) only [go_sem]
    refine ⟨_, c_rational_Sign _, ?_⟩
    refine hK3 _ ?_
    refine rgnX_take 5 (fun K4 hK4 => ?_)
    simp (disch := omega) only [go_sem]
    first | refine ⟨_, c_rational_Sign _, ?_⟩ | skip
    refine hK4 _ ?_
    simp (disch := omega) only [go_sem]
    refine hK2 _ ?_
    clear hK4 K4 hK3 K3 hK2 K2
    refine pwp_cond (b := _) (by rfl) (fun hb0 => ?_) (fun hb0 => ?_)
    · first | replace hb0 := of_decide_eq_true hb0 | replace hb0 := of_decide_eq_false hb0 | skip
      refine pwx_region 0 [] (by rfl) (fun K5 hK5 => ?_)
      refine rgnX_take 1 (fun K6 hK6 => ?_)
      simp (disch := omega) only [go_sem]
      refine ⟨_, c_point_zero, ?_⟩
      refine hK6 _ ?_
      simp (disch := omega) only [go_sem]
      refine hK5 _ ?_
      clear hK6 K6 hK5 K5
      refine n_then ?_
      refine pwx_sr 0 [] (by rfl) (fun K7 hK7 => ?_)
      simp (disch := omega) only [go_sem]
      refine hK7 _ ?_
      clear hK7 K7
      refine pwp_ret ?_
      refine ⟨Or.inr rfl, ?_⟩
      simp (disch := omega) only [go_sem]
      all_goals first | rw [pC_0 (by assumption) (by assumption)] | rw [pC_1 (by assumption)] | rw [pC_2 (by assumption)]
    · first | replace hb0 := of_decide_eq_true hb0 | replace hb0 := of_decide_eq_false hb0 | skip
      refine pwp_skip ?_
      refine n_then ?_
      refine pwx_sr 0 [] (by rfl) (fun K8 hK8 => ?_)
      simp (disch := omega) only [go_sem]
      refine hK8 _ ?_
      clear hK8 K8
      refine pwp_ret ?_
      refine ⟨Or.inr rfl, ?_⟩
      simp (disch := omega) only [go_sem]
      all_goals first | rw [pC_0 (by assumption) (by assumption)] | rw [pC_1 (by assumption)] | rw [pC_2 (by assumption)]
  · refine pwx_sr 0 [some 3, some 4, some 5, some 6, some 7, some 8, some 9, some 10, some 11, some 12] (by rfl) (fun K9 hK9 => ?_)
    refine rgnX_take 3 (fun K10 hK10 => ?_)
    simp (disch := omega) only [go_sem]
    refine ⟨_, c_rational_Sign _, ?_⟩
    refine hK10 _ ?_
    refine rgnX_take 5 (fun K11 hK11 => ?_)
    simp (disch := omega) only [go_sem]
    first | refine ⟨_, c_rational_Sign _, ?_⟩ | skip
    refine hK11 _ ?_
    simp (disch := omega) only [go_sem]
    refine hK9 _ ?_
    clear hK11 K11 hK10 K10 hK9 K9
    refine pwp_cond (b := false) (by rfl) (fun h => nomatch h) (fun _ => ?_)
    refine pwp_skip ?_
    refine n_then ?_
    refine pwx_sr 0 [] (by rfl) (fun K12 hK12 => ?_)
    simp (disch := omega) only [go_sem]
    refine hK12 _ ?_
    clear hK12 K12
    refine pwp_ret ?_
    refine ⟨Or.inr rfl, ?_⟩
    simp (disch := omega) only [go_sem]
    all_goals first | rw [pC_0 (by assumption) (by assumption)] | rw [pC_1 (by assumption)] | rw [pC_2 (by assumption)]
set_option maxHeartbeats 4000000 in
theorem c_point_At (v w : Rat) :
    Ret Tryz.prog 34 [.a (ratC (v) ++ ratC (w))] (.e (.a (ratC (v) ++ (ratC (0) ++ (ratC (w) ++ (ratC (0) ++ ratC (0))))))) := by
  refine ret_of_body (md := {}) Tryz.func34 (by kernel_rfl) rfl ?_
  simp only [Tryz.f34, List.map_cons, List.map_nil, List.length_cons, List.length_nil, Nat.zero_add, Nat.reduceAdd, Nat.reduceSub, List.reduceReplicate, List.cons_append, List.nil_append]
  refine pwx_sr 2 [] (by rfl) (fun K1 hK1 => ?_)
  simp (disch := omega) only [go_sem]
  refine hK1 _ ?_
  clear hK1 K1
  refine pwx_sd Tryz.mixed 0 [] (by rfl) [] (by kernel_rfl) (by simp) (fun K2 hK2 => ?_)
  refine rgnX_take 3 (fun K3 hK3 => ?_)
  simp (disch := omega) only [go_sem]
  refine ⟨_, c_point_zero, ?_⟩
  refine hK3 _ ?_
  refine rgnX_take 3 (fun K4 hK4 => ?_)
  simp (disch := omega) only [go_sem]
  refine ⟨_, c_point_zero, ?_⟩
  refine hK4 _ ?_
  refine rgnX_take 1 (fun K5 hK5 => ?_)
  simp (disch := omega) only [go_sem]
  refine ⟨_, c_point_zero, ?_⟩
  refine hK5 _ ?_
  simp (disch := omega) only [go_sem]
  refine hK2 _ ?_
  clear hK5 K5 hK4 K4 hK3 K3 hK2 K2
  refine pwp_ret ?_
  refine ⟨Or.inr rfl, ?_⟩
  simp (disch := omega) only [go_sem]
set_option maxHeartbeats 4000000 in
theorem c_point_OfGrid (x y : Int) (hx : -9223372036854775808 ≤ x) (hx' : x < 9223372036854775808) (hy : -9223372036854775808 ≤ y) (hy' : y < 9223372036854775808) :
    Ret Tryz.prog 35 [.a [.int .i64 x, .int .i64 y]] (.e (.a (ratC ((x : Rat)) ++ (ratC (0) ++ (ratC ((y : Rat)) ++ (ratC (0) ++ ratC (0))))))) := by
  refine ret_of_body (md := {}) Tryz.func35 (by kernel_rfl) rfl ?_
  simp only [Tryz.f35, List.map_cons, List.map_nil, List.length_cons, List.length_nil, Nat.zero_add, Nat.reduceAdd, Nat.reduceSub, List.reduceReplicate, List.cons_append, List.nil_append]
  refine pwx_sr 2 [] (by rfl) (fun K1 hK1 => ?_)
  simp (disch := omega) only [go_sem]
  refine hK1 _ ?_
  clear hK1 K1
  refine pwx_sd Tryz.mixed 0 [] (by rfl) [] (by kernel_rfl) (by simp) (fun K2 hK2 => ?_)
  refine rgnX_take 3 (fun K3 hK3 => ?_)
  simp (disch := omega) only [go_sem]
  refine ⟨_, c_rational_FromInt64 _ (by omega) (by omega), ?_⟩
  refine hK3 _ ?_
  refine rgnX_take 3 (fun K4 hK4 => ?_)
  simp (disch := omega) only [go_sem]
  refine ⟨_, c_rational_FromInt64 _ (by omega) (by omega), ?_⟩
  refine hK4 _ ?_
  refine rgnX_take 2 (fun K5 hK5 => ?_)
  simp (disch := omega) only [go_sem]
  refine ⟨_, c_point_At _ _, ?_⟩
  refine hK5 _ ?_
  simp (disch := omega) only [go_sem]
  refine hK2 _ ?_
  clear hK5 K5 hK4 K4 hK3 K3 hK2 K2
  refine pwp_ret ?_
  refine ⟨Or.inr rfl, ?_⟩
  simp (disch := omega) only [go_sem]
set_option maxHeartbeats 4000000 in
theorem c_point_Make_t (a b c a' b' c' : Rat) {k l m k' l' m' : Nat} [SzR a k] [SzR b l] [SzR c m] [SzR a' k'] [SzR b' l'] [SzR c' m'] (hk : k + l + m + k' + l' + m' ≤ 3000) (hm : b = 0 ∨ b' = 0 ∨ c = c') :
    Ret Tryz.prog 13 [.a (ratC (a) ++ (ratC (b) ++ ratC (c))), .a (ratC (a') ++ (ratC (b') ++ ratC (c')))] (.t [.a (ratC (a) ++ (ratC (b) ++ (ratC (a') ++ (ratC (b') ++ ratC (pC b b' (rK b c c')))))), .c (.int .i64 0)]) := by
  refine ret_of_body (md := {}) Tryz.func13 (by kernel_rfl) rfl ?_
  simp only [Tryz.f13, List.map_cons, List.map_nil, List.length_cons, List.length_nil, Nat.zero_add, Nat.reduceAdd, Nat.reduceSub, List.reduceReplicate, List.cons_append, List.nil_append]
  refine pwx_sr 3 [] (by rfl) (fun K1 hK1 => ?_)
  simp (disch := omega) only [go_sem]
  refine hK1 _ ?_
  clear hK1 K1
  refine pwx_sr 1 [] (by rfl) (fun K2 hK2 => ?_)
  simp (disch := omega) only [go_sem]
  refine hK2 _ ?_
  clear hK2 K2
  refine pwp_seq ?_
  refine pwx_sr 0 [] (by rfl) (fun K3 hK3 => ?_)
  refine rgnX_take 3 (fun K4 hK4 => ?_)
  simp (disch := omega) only [go_sem]
  refine ⟨_, c_rational_Sign _, ?_⟩
  refine hK4 _ ?_
  simp (disch := omega) only [go_sem]
  refine hK3 _ ?_
  clear hK4 K4 hK3 K3
  refine pwp_cond (b := _) (by rfl) (fun hb0 => ?_) (fun hb0 => ?_)
  · first | replace hb0 := of_decide_eq_true hb0 | replace hb0 := of_decide_eq_false hb0 | skip
    refine pwx_region 0 [] (by rfl) (fun K5 hK5 => ?_)
    simp (disch := omega) only [go_sem]
    refine hK5 _ ?_
    clear hK5 K5
    refine n_then ?_
    refine pwx_sr 0 [] (by rfl) (fun K6 hK6 => ?_)
    refine rgnX_take 11 (fun K7 hK7 => ?_)
    simp (disch := omega) only [go_sem]
    refine ⟨_, c_point_reduced _ _ _ _ _, ?_⟩
    refine hK7 _ ?_
    simp (disch := omega) only [go_sem]
    refine hK6 _ ?_
    clear hK7 K7 hK6 K6
    refine pwp_ret ?_
    refine ⟨Or.inr rfl, ?_⟩
    simp (disch := omega) only [go_sem]
    all_goals first | rw [rK_0 (by assumption)] | rw [rK_1 (by assumption)]
  · first | replace hb0 := of_decide_eq_true hb0 | replace hb0 := of_decide_eq_false hb0 | skip
    by_cases h1 : b' = 0
    · refine pwx_sr 0 [some 15, some 16, some 17, some 18, some 19, some 20, some 21, some 22, some 23, some 24, some 25, some 26] (by rfl) (fun K8 hK8 => ?_)
      refine rgnX_take 3 (fun K9 hK9 => ?_)
      simp (disch := omega) only [go_sem]
      refine ⟨_, c_rational_Sign _, ?_⟩
      refine hK9 _ ?_
      refine rgnX_take 7 (fun K10 hK10 => ?_)
      simp (disch := omega) only [go_sem]
      first | refine ⟨_, c_rational_Cmp _ _ (by omega), ?_⟩ | skip
      refine hK10 _ ?_
      simp (disch := omega) only [go_sem]
      refine hK8 _ ?_
      clear hK10 K10 hK9 K9 hK8 K8
      refine pwp_cond (b := false) (by rfl) (fun h => nomatch h) (fun _ => ?_)
      refine pwp_skip ?_
      refine n_then ?_
      refine pwx_sr 0 [] (by rfl) (fun K11 hK11 => ?_)
      refine rgnX_take 11 (fun K12 hK12 => ?_)
      simp (disch := omega) only [go_sem]
      refine ⟨_, c_point_reduced _ _ _ _ _, ?_⟩
      refine hK12 _ ?_
      simp (disch := omega) only [go_sem]
      refine hK11 _ ?_
      clear hK12 K12 hK11 K11
      refine pwp_ret ?_
      refine ⟨Or.inr rfl, ?_⟩
      simp (disch := omega) only [go_sem]
      all_goals first | rw [rK_0 (by assumption)] | rw [rK_1 (by assumption)]
    · refine pwx_sr 0 [some 15, some 16, some 17, some 18, some 19, some 20, some 21, some 22, some 23, some 24, some 25, some 26] (by rfl) (fun K13 hK13 => ?_)
      refine rgnX_take 3 (fun K14 hK14 => ?_)
      simp (disch := omega) only [go_sem]
      refine ⟨_, c_rational_Sign _, ?_⟩
      refine hK14 _ ?_
      refine rgnX_take 7 (fun K15 hK15 => ?_)
      simp (disch := omega) only [go_sem]
      first | refine ⟨_, c_rational_Cmp _ _ (by omega), ?_⟩ | skip
      refine hK15 _ ?_
      simp (disch := omega) only [go_sem]
      refine hK13 _ ?_
      clear hK15 K15 hK14 K14 hK13 K13
      refine pwp_cond (b := _) (by rfl) (fun hb2 => ?_) (fun hb2 => ?_)
      · exfalso; simp_all
      · first | replace hb2 := of_decide_eq_true hb2 | replace hb2 := of_decide_eq_false hb2 | skip
        refine pwp_skip ?_
        refine n_then ?_
        refine pwx_sr 0 [] (by rfl) (fun K16 hK16 => ?_)
        refine rgnX_take 11 (fun K17 hK17 => ?_)
        simp (disch := omega) only [go_sem]
        refine ⟨_, c_point_reduced _ _ _ _ _, ?_⟩
        refine hK17 _ ?_
        simp (disch := omega) only [go_sem]
        refine hK16 _ ?_
        clear hK17 K17 hK16 K16
        refine pwp_ret ?_
        refine ⟨Or.inr rfl, ?_⟩
        simp (disch := omega) only [go_sem]
        all_goals first | rw [rK_0 (by assumption)] | rw [rK_1 (by assumption)]
set_option maxHeartbeats 4000000 in
theorem c_point_Make_f (a b c a' b' c' : Rat) {k l m k' l' m' : Nat} [SzR a k] [SzR b l] [SzR c m] [SzR a' k'] [SzR b' l'] [SzR c' m'] (hk : k + l + m + k' + l' + m' ≤ 3000) (hm : ¬ (b = 0 ∨ b' = 0 ∨ c = c')) :
    Ret Tryz.prog 13 [.a (ratC (a) ++ (ratC (b) ++ ratC (c))), .a (ratC (a') ++ (ratC (b') ++ ratC (c')))] (.t [.a [.bool false, .sl 0 [], .bool false, .sl 0 [], .bool false, .sl 0 [], .bool false, .sl 0 [], .bool false, .sl 0 [], .bool false, .sl 0 [], .bool false, .sl 0 [], .bool false, .sl 0 [], .bool false, .sl 0 [], .bool false, .sl 0 []], .c (.int .i64 1)]) := by
  refine ret_of_body (md := {}) Tryz.func13 (by kernel_rfl) rfl ?_
  simp only [Tryz.f13, List.map_cons, List.map_nil, List.length_cons, List.length_nil, Nat.zero_add, Nat.reduceAdd, Nat.reduceSub, List.reduceReplicate, List.cons_append, List.nil_append]
  simp only [not_or] at hm
  obtain ⟨m1, m2, m3⟩ := hm
  refine pwx_sr 3 [] (by rfl) (fun K1 hK1 => ?_)
  simp (disch := omega) only [go_sem]
  refine hK1 _ ?_
  clear hK1 K1
  refine pwx_sr 1 [] (by rfl) (fun K2 hK2 => ?_)
  simp (disch := omega) only [go_sem]
  refine hK2 _ ?_
  clear hK2 K2
  refine pwp_seq ?_
  refine pwx_sr 0 [] (by rfl) (fun K3 hK3 => ?_)
  refine rgnX_take 3 (fun K4 hK4 => ?_)
  simp (disch := omega) only [go_sem, m1, decide_false]
  refine ⟨_, c_rational_Sign _, ?_⟩
  refine hK4 _ ?_
  simp (disch := omega) only [go_sem, m1, decide_false]
  refine hK3 _ ?_
  clear hK4 K4 hK3 K3
  refine pwp_cond (b := _) (by rfl) (fun hb0 => ?_) (fun hb0 => ?_)
  · exfalso; simp_all
  · first | replace hb0 := of_decide_eq_true hb0 | replace hb0 := of_decide_eq_false hb0 | skip
    refine pwx_sr 0 [some 15, some 16, some 17, some 18, some 19, some 20, some 21, some 22, some 23, some 24, some 25, some 26] (by rfl) (fun K5 hK5 => ?_)
    refine rgnX_take 3 (fun K6 hK6 => ?_)
    simp (disch := omega) only [go_sem, m2, decide_false]
    refine ⟨_, c_rational_Sign _, ?_⟩
    refine hK6 _ ?_
    refine rgnX_take 7 (fun K7 hK7 => ?_)
    simp (disch := omega) only [go_sem, m2, decide_false]
    first | refine ⟨_, c_rational_Cmp _ _ (by omega), ?_⟩ | skip
    refine hK7 _ ?_
    simp (disch := omega) only [go_sem, m2, decide_false]
    refine hK5 _ ?_
    clear hK7 K7 hK6 K6 hK5 K5
    refine pwp_cond (b := _) (by rfl) (fun hb1 => ?_) (fun hb1 => ?_)
    · first | replace hb1 := of_decide_eq_true hb1 | replace hb1 := of_decide_eq_false hb1 | skip
      refine pwx_sr 0 [] (by rfl) (fun K8 hK8 => ?_)
      simp (disch := omega) only [go_sem]
      refine hK8 _ ?_
      clear hK8 K8
      refine pwp_ret ?_
      refine r_then ?_
      refine ⟨Or.inr rfl, ?_⟩
      simp (disch := omega) only [go_sem]
    · exfalso; simp_all
set_option maxHeartbeats 4000000 in
theorem c_point_Compare (a b d e c : Rat) {k1 k2 k3 k4 k5 : Nat} [SzR a k1] [SzR b k2] [SzR d k3] [SzR e k4] [SzR c k5] (a' b' d' e' c' : Rat) {l1 l2 l3 l4 l5 : Nat} [SzR a' l1] [SzR b' l2] [SzR d' l3] [SzR e' l4] [SzR c' l5] (hk : k1 + k2 + k3 + k4 + k5 + l1 + l2 + l3 + l4 + l5 ≤ 900) (hc : 0 ≤ c) (hc' : 0 ≤ c') :
    Ret Tryz.prog 20 [.a (ratC (a) ++ (ratC (b) ++ (ratC (d) ++ (ratC (e) ++ ratC (c))))), .a (ratC (a') ++ (ratC (b') ++ (ratC (d') ++ (ratC (e') ++ ratC (c')))))] (.e (.c (.int .i64 (cmpP a b d e c a' b' d' e' c')))) := by
  refine ret_of_body (md := {}) Tryz.func20 (by kernel_rfl) rfl ?_
  simp only [Tryz.f20, List.map_cons, List.map_nil, List.length_cons, List.length_nil, Nat.zero_add, Nat.reduceAdd, Nat.reduceSub, List.reduceReplicate, List.cons_append, List.nil_append]
  refine pwx_sr 2 [] (by rfl) (fun K1 hK1 => ?_)
  simp (disch := omega) only [go_sem]
  refine hK1 _ ?_
  clear hK1 K1
  refine pwp_seq ?_
  refine pwx_sd Tryz.mixed 0 [] (by rfl) [] (by kernel_rfl) (by simp) (fun K2 hK2 => ?_)
  refine rgnX_take 2 (fun K3 hK3 => ?_)
  simp (disch := omega) only [go_sem]
  refine ⟨_, c_point_X _ _ _ _ _, ?_⟩
  refine hK3 _ ?_
  refine rgnX_take 2 (fun K4 hK4 => ?_)
  simp (disch := omega) only [go_sem]
  refine ⟨_, c_point_X _ _ _ _ _, ?_⟩
  refine hK4 _ ?_
  refine rgnX_take 1 (fun K5 hK5 => ?_)
  simp (disch := omega) only [go_sem]
  refine ⟨_, c_radical_Cmp _ _ _ _ _ _ (by omega) (rC_nn (by assumption)) (rC_nn (by assumption)), ?_⟩
  refine hK5 _ ?_
  simp (disch := omega) only [go_sem]
  refine hK2 _ ?_
  clear hK5 K5 hK4 K4 hK3 K3 hK2 K2
  refine pwx_sr 0 [] (by rfl) (fun K6 hK6 => ?_)
  simp (disch := omega) only [go_sem]
  refine hK6 _ ?_
  clear hK6 K6
  refine pwp_cond (b := _) (by rfl) (fun hb0 => ?_) (fun hb0 => ?_)
  · have hz := nzi_t hb0
    refine pwx_sr 0 [] (by rfl) (fun K7 hK7 => ?_)
    simp (disch := omega) only [go_sem]
    refine hK7 _ ?_
    clear hK7 K7
    refine pwp_ret ?_
    refine r_then ?_
    refine ⟨Or.inr rfl, ?_⟩
    simp (disch := omega) only [go_sem]
    all_goals first | rw [cmpP_0 hz] | rw [cmpP_1 hz]
  · have hz := nzi_f hb0
    refine pwp_skip ?_
    refine n_then ?_
    refine pwx_sd Tryz.mixed 0 [] (by rfl) [] (by kernel_rfl) (by simp) (fun K8 hK8 => ?_)
    refine rgnX_take 2 (fun K9 hK9 => ?_)
    simp (disch := omega) only [go_sem]
    refine ⟨_, c_point_Y _ _ _ _ _, ?_⟩
    refine hK9 _ ?_
    refine rgnX_take 2 (fun K10 hK10 => ?_)
    simp (disch := omega) only [go_sem]
    refine ⟨_, c_point_Y _ _ _ _ _, ?_⟩
    refine hK10 _ ?_
    refine rgnX_take 1 (fun K11 hK11 => ?_)
    simp (disch := omega) only [go_sem]
    refine ⟨_, c_radical_Cmp _ _ _ _ _ _ (by omega) (rC_nn (by assumption)) (rC_nn (by assumption)), ?_⟩
    refine hK11 _ ?_
    simp (disch := omega) only [go_sem]
    refine hK8 _ ?_
    clear hK11 K11 hK10 K10 hK9 K9 hK8 K8
    refine pwp_ret ?_
    refine ⟨Or.inr rfl, ?_⟩
    simp (disch := omega) only [go_sem]
    all_goals first | rw [cmpP_0 hz] | rw [cmpP_1 hz]
set_option maxHeartbeats 4000000 in
theorem c_point_Equal (a b d e c : Rat) {k1 k2 k3 k4 k5 : Nat} [SzR a k1] [SzR b k2] [SzR d k3] [SzR e k4] [SzR c k5] (a' b' d' e' c' : Rat) {l1 l2 l3 l4 l5 : Nat} [SzR a' l1] [SzR b' l2] [SzR d' l3] [SzR e' l4] [SzR c' l5] (hk : k1 + k2 + k3 + k4 + k5 + l1 + l2 + l3 + l4 + l5 ≤ 900) (hc : 0 ≤ c) (hc' : 0 ≤ c') :
    Ret Tryz.prog 22 [.a (ratC (a) ++ (ratC (b) ++ (ratC (d) ++ (ratC (e) ++ ratC (c))))), .a (ratC (a') ++ (ratC (b') ++ (ratC (d') ++ (ratC (e') ++ ratC (c')))))] (.e (.c (.bool (decide (cmpP a b d e c a' b' d' e' c' = 0))))) := by
  refine ret_of_body (md := {}) Tryz.func22 (by kernel_rfl) rfl ?_
  simp only [Tryz.f22, List.map_cons, List.map_nil, List.length_cons, List.length_nil, Nat.zero_add, Nat.reduceAdd, Nat.reduceSub, List.reduceReplicate, List.cons_append, List.nil_append]
  refine pwx_sr 2 [] (by rfl) (fun K1 hK1 => ?_)
  simp (disch := omega) only [go_sem]
  refine hK1 _ ?_
  clear hK1 K1
  refine pwx_sr 0 [] (by rfl) (fun K2 hK2 => ?_)
  refine rgnX_take 3 (fun K3 hK3 => ?_)
  simp (disch := omega) only [go_sem]
  refine ⟨_, c_point_Compare _ _ _ _ _ _ _ _ _ _ (by omega) (by assumption) (by assumption), ?_⟩
  refine hK3 _ ?_
  simp (disch := omega) only [go_sem]
  refine hK2 _ ?_
  clear hK3 K3 hK2 K2
  refine pwp_ret ?_
  refine ⟨Or.inr rfl, ?_⟩
  simp (disch := omega) only [go_sem]
set_option maxHeartbeats 4000000 in
theorem c_point_Square (a b d e c v w : Rat) {k6 k7 k1 k2 k3 k4 k5 : Nat} [SzR a k1] [SzR b k2] [SzR d k3] [SzR e k4] [SzR c k5] [SzR v k6] [SzR w k7] (hk : k1 + k2 + k3 + k4 + k5 + k6 + k7 ≤ 400) :
    Ret Tryz.prog 24 [.a (ratC (a) ++ (ratC (b) ++ (ratC (d) ++ (ratC (e) ++ ratC (c))))), .a (ratC (v) ++ ratC (w))] (.e (.a (ratC (sqA a b d e c v w) ++ (ratC (sqB2 a b d e v w) ++ ratC (rC (sqB2 a b d e v w) c))))) := by
  refine ret_of_body (md := {}) Tryz.func24 (by kernel_rfl) rfl ?_
  simp only [Tryz.f24, List.map_cons, List.map_nil, List.length_cons, List.length_nil, Nat.zero_add, Nat.reduceAdd, Nat.reduceSub, List.reduceReplicate, List.cons_append, List.nil_append]
  refine pwx_sr 3 [] (by rfl) (fun K1 hK1 => ?_)
  simp (disch := omega) only [go_sem]
  refine hK1 _ ?_
  clear hK1 K1
  refine pwx_sd Tryz.mixed 2 [] (by rfl) [] (by kernel_rfl) (by simp) (fun K2 hK2 => ?_)
  refine rgnX_take 5 (fun K3 hK3 => ?_)
  simp (disch := omega) only [go_sem]
  refine ⟨_, c_rational_Sub _ _ (by omega), ?_⟩
  refine hK3 _ ?_
  refine rgnX_take 5 (fun K4 hK4 => ?_)
  simp (disch := omega) only [go_sem]
  refine ⟨_, c_rational_Sub _ _ (by omega), ?_⟩
  refine hK4 _ ?_
  simp (disch := omega) only [go_sem]
  refine hK2 _ ?_
  clear hK4 K4 hK3 K3 hK2 K2
  refine pwx_sr 0 [] (by rfl) (fun K5 hK5 => ?_)
  simp (disch := omega) only [go_sem]
  refine hK5 _ ?_
  clear hK5 K5
  refine pwx_sd Tryz.mixed 1 [] (by rfl) [] (by kernel_rfl) (by simp) (fun K6 hK6 => ?_)
  refine rgnX_take 4 (fun K7 hK7 => ?_)
  simp (disch := omega) only [go_sem]
  refine ⟨_, c_rational_Mul _ _ (by omega), ?_⟩
  refine hK7 _ ?_
  refine rgnX_take 4 (fun K8 hK8 => ?_)
  simp (disch := omega) only [go_sem]
  refine ⟨_, c_rational_Mul _ _ (by omega), ?_⟩
  refine hK8 _ ?_
  refine rgnX_take 1 (fun K9 hK9 => ?_)
  simp (disch := omega) only [go_sem]
  refine ⟨_, c_rational_Add _ _ (by omega), ?_⟩
  refine hK9 _ ?_
  refine rgnX_take 7 (fun K10 hK10 => ?_)
  simp (disch := omega) only [go_sem]
  refine ⟨_, c_rational_Mul _ _ (by omega), ?_⟩
  refine hK10 _ ?_
  refine rgnX_take 6 (fun K11 hK11 => ?_)
  simp (disch := omega) only [go_sem]
  refine ⟨_, c_rational_Mul _ _ (by omega), ?_⟩
  refine hK11 _ ?_
  refine rgnX_take 1 (fun K12 hK12 => ?_)
  simp (disch := omega) only [go_sem]
  refine ⟨_, c_rational_Add _ _ (by omega), ?_⟩
  refine hK12 _ ?_
  refine rgnX_take 3 (fun K13 hK13 => ?_)
  simp (disch := omega) only [go_sem]
  refine ⟨_, c_rational_Mul _ _ (by omega), ?_⟩
  refine hK13 _ ?_
  refine rgnX_take 1 (fun K14 hK14 => ?_)
  simp (disch := omega) only [go_sem]
  refine ⟨_, c_rational_Add _ _ (by omega), ?_⟩
  refine hK14 _ ?_
  simp (disch := omega) only [go_sem]
  refine hK6 _ ?_
  clear hK14 K14 hK13 K13 hK12 K12 hK11 K11 hK10 K10 hK9 K9 hK8 K8 hK7 K7 hK6 K6
  refine pwx_sd Tryz.mixed 1 [] (by rfl) [] (by kernel_rfl) (by simp) (fun K15 hK15 => ?_)
  refine rgnX_take 5 (fun K16 hK16 => ?_)
  simp (disch := omega) only [go_sem]
  refine ⟨_, c_rational_Mul _ _ (by omega), ?_⟩
  refine hK16 _ ?_
  refine rgnX_take 5 (fun K17 hK17 => ?_)
  simp (disch := omega) only [go_sem]
  refine ⟨_, c_rational_Mul _ _ (by omega), ?_⟩
  refine hK17 _ ?_
  refine rgnX_take 1 (fun K18 hK18 => ?_)
  simp (disch := omega) only [go_sem]
  refine ⟨_, c_rational_Add _ _ (by omega), ?_⟩
  refine hK18 _ ?_
  simp (disch := omega) only [go_sem]
  refine hK15 _ ?_
  clear hK18 K18 hK17 K17 hK16 K16 hK15 K15
  refine pwx_sd Tryz.mixed 0 [] (by rfl) [] (by kernel_rfl) (by simp) (fun K19 hK19 => ?_)
  refine rgnX_take 4 (fun K20 hK20 => ?_)
  simp (disch := omega) only [go_sem]
  refine ⟨_, c_rational_Add _ _ (by omega), ?_⟩
  refine hK20 _ ?_
  refine rgnX_take 3 (fun K21 hK21 => ?_)
  simp (disch := omega) only [go_sem]
  refine ⟨_, c_point_coordinate _ _ _, ?_⟩
  refine hK21 _ ?_
  simp (disch := omega) only [go_sem]
  refine hK19 _ ?_
  clear hK21 K21 hK20 K20 hK19 K19
  refine pwp_ret ?_
  refine ⟨Or.inr rfl, ?_⟩
  simp (disch := omega) only [go_sem]
  all_goals rfl
end Go.Proofs.YtbadkjfjdkbgfaaGreat

set_option linter.unusedSimpArgs false
set_option linter.unusedVariables false
set_option maxRecDepth 20000
namespace Go.Proofs.YtbadkjfjdkbgfaaGreat
open Go Go.PL Go.RL
set_option maxHeartbeats 4000000 in
theorem c_swarfref07_Vec (x y : Int) (hx : -9223372036854775808 ≤ x) (hx' : x < 9223372036854775808) (hy : -9223372036854775808 ≤ y) (hy' : y < 9223372036854775808) :
    Ret Tryz.prog 49 [.c (.int .i64 x), .c (.int .i64 y)] (.e (.a (ratC ((x : Rat)) ++ ratC ((y : Rat))))) := by
  refine ret_of_body (md := {}) Tryz.func49 (by kernel_rfl) rfl ?_
  simp only [Tryz.f49, List.map_cons, List.map_nil, List.length_cons, List.length_nil, Nat.zero_add, Nat.reduceAdd, Nat.reduceSub, List.reduceReplicate, List.cons_append, List.nil_append]
  refine pwx_sr 1 [] (by rfl) (fun K1 hK1 => ?_)
  simp (disch := omega) only [go_sem]
  refine hK1 _ ?_
  clear hK1 K1
  refine pwx_sr 0 [] (by rfl) (fun K2 hK2 => ?_)
  refine rgnX_take 2 (fun K3 hK3 => ?_)
  simp (disch := omega) only [go_sem]
  refine ⟨_, c_swarfref02_FromInt64 _ (by omega) (by omega), ?_⟩
  refine hK3 _ ?_
  refine rgnX_take 2 (fun K4 hK4 => ?_)
  simp (disch := omega) only [go_sem]
  refine ⟨_, c_swarfref02_FromInt64 _ (by omega) (by omega), ?_⟩
  refine hK4 _ ?_
  simp (disch := omega) only [go_sem]
  refine hK2 _ ?_
  clear hK4 K4 hK3 K3 hK2 K2
  refine pwp_ret ?_
  refine ⟨Or.inr rfl, ?_⟩
  simp (disch := omega) only [go_sem]
end Go.Proofs.YtbadkjfjdkbgfaaGreat

set_option linter.unusedSimpArgs false
set_option linter.unusedVariables false
set_option maxRecDepth 20000
namespace Go.Proofs.YtbadkjfjdkbgfaaGreat
open Go Go.PL Go.RL
end Go.Proofs.YtbadkjfjdkbgfaaGreat

set_option linter.unusedSimpArgs false
set_option linter.unusedVariables false
set_option maxRecDepth 20000
namespace Go.Proofs.YtbadkjfjdkbgfaaGreat
open Go Go.PL Go.RL
set_option maxHeartbeats 4000000 in
theorem c_swarfref07_Valid (a b d e c : Rat) {k1 k2 k3 k4 k5 : Nat} [SzR a k1] [SzR b k2] [SzR d k3] [SzR e k4] [SzR c k5] (hk : k1 + k2 + k3 + k4 + k5 ≤ 10000) :
    Ret Tryz.prog 41 [.a (ratC (a) ++ (ratC (b) ++ (ratC (d) ++ (ratC (e) ++ ratC (c)))))] (.e (.c (.bool (vldP b e c)))) := by
  refine ret_of_body (md := {}) Tryz.func41 (by kernel_rfl) rfl ?_
  simp only [Tryz.f41, List.map_cons, List.map_nil, List.length_cons, List.length_nil, Nat.zero_add, Nat.reduceAdd, Nat.reduceSub, List.reduceReplicate, List.cons_append, List.nil_append]
  refine pwx_sr 1 [] (by rfl) (fun K1 hK1 => ?_)
  simp (disch := omega) only [go_sem]
  refine hK1 _ ?_
  clear hK1 K1
  refine pwp_seq ?_
  refine pwx_sr 0 [some 5, some 6, some 7, some 8, some 9, some 10, some 11, some 12, some 13, some 14, some 15, some 16, some 17, some 18, some 19, some 20, some 21, some 22, some 23, some 24, some 25, some 26, some 27, some 28, some 29, some 30, some 31, some 32] (by rfl) (fun K2 hK2 => ?_)
  refine rgnX_take 3 (fun K3 hK3 => ?_)
  simp (disch := omega) only [go_sem]
  refine ⟨_, c_swarfref02_ValidQ _ (by omega), ?_⟩
  refine hK3 _ ?_
  refine rgnX_take 5 (fun K4 hK4 => ?_)
  simp (disch := omega) only [go_sem]
  first | refine ⟨_, c_swarfref02_ValidQ _ (by omega), ?_⟩ | skip
  refine hK4 _ ?_
  refine rgnX_take 6 (fun K5 hK5 => ?_)
  simp (disch := omega) only [go_sem]
  first | refine ⟨_, c_swarfref02_ValidQ _ (by omega), ?_⟩ | skip
  refine hK5 _ ?_
  refine rgnX_take 6 (fun K6 hK6 => ?_)
  simp (disch := omega) only [go_sem]
  first | refine ⟨_, c_swarfref02_ValidQ _ (by omega), ?_⟩ | skip
  refine hK6 _ ?_
  refine rgnX_take 6 (fun K7 hK7 => ?_)
  simp (disch := omega) only [go_sem]
  first | refine ⟨_, c_swarfref02_ValidQ _ (by omega), ?_⟩ | skip
  refine hK7 _ ?_
  simp (disch := omega) only [go_sem]
  refine hK2 _ ?_
  clear hK7 K7 hK6 K6 hK5 K5 hK4 K4 hK3 K3 hK2 K2
  refine pwp_cond (b := false) (by rfl) (fun h => nomatch h) (fun _ => ?_)
  refine pwp_skip ?_
  refine n_then ?_
  refine pwp_seq ?_
  by_cases hb0 : b = 0 <;> by_cases he0 : e = 0
  · have hbd := decide_eq_true hb0
    have hed := decide_eq_true he0
    refine pwx_sr 0 [some 33, some 34, some 35, some 36, some 37, some 38, some 39, some 40, some 41, some 42] (by rfl) (fun K8 hK8 => ?_)
    refine rgnX_take 3 (fun K9 hK9 => ?_)
    simp (disch := omega) only [go_sem, hbd, hed]
    refine ⟨_, c_swarfref02_Sign _, ?_⟩
    refine hK9 _ ?_
    refine rgnX_take 5 (fun K10 hK10 => ?_)
    simp (disch := omega) only [go_sem, hbd, hed]
    first | refine ⟨_, c_swarfref02_Sign _, ?_⟩ | skip
    refine hK10 _ ?_
    simp (disch := omega) only [go_sem, hbd, hed]
    refine hK8 _ ?_
    clear hK10 K10 hK9 K9 hK8 K8
    refine pwp_cond (b := true) (by rfl) (fun _ => ?_) (fun h => nomatch h)
    refine pwx_sr 0 [] (by rfl) (fun K11 hK11 => ?_)
    refine rgnX_take 3 (fun K12 hK12 => ?_)
    simp (disch := omega) only [go_sem]
    refine ⟨_, c_swarfref02_Sign _, ?_⟩
    refine hK12 _ ?_
    simp (disch := omega) only [go_sem]
    refine hK11 _ ?_
    clear hK12 K12 hK11 K11
    refine pwp_ret ?_
    refine r_then ?_
    refine ⟨Or.inr rfl, ?_⟩
    simp (disch := omega) only [go_sem]
    all_goals simp_all [vldP]
  · have hbd := decide_eq_true hb0
    have hed := decide_eq_false he0
    refine pwx_sr 0 [some 33, some 34, some 35, some 36, some 37, some 38, some 39, some 40, some 41, some 42] (by rfl) (fun K13 hK13 => ?_)
    refine rgnX_take 3 (fun K14 hK14 => ?_)
    simp (disch := omega) only [go_sem, hbd, hed]
    refine ⟨_, c_swarfref02_Sign _, ?_⟩
    refine hK14 _ ?_
    refine rgnX_take 5 (fun K15 hK15 => ?_)
    simp (disch := omega) only [go_sem, hbd, hed]
    first | refine ⟨_, c_swarfref02_Sign _, ?_⟩ | skip
    refine hK15 _ ?_
    simp (disch := omega) only [go_sem, hbd, hed]
    refine hK13 _ ?_
    clear hK15 K15 hK14 K14 hK13 K13
    refine pwp_cond (b := false) (by rfl) (fun h => nomatch h) (fun _ => ?_)
    refine pwp_skip ?_
    refine n_then ?_
    rcases hs : sqB c with _ | _
    · refine pwx_sr 1 [] (by rfl) (fun K16 hK16 => ?_)
      refine rgnX_take 3 (fun K17 hK17 => ?_)
      simp (disch := omega) only [go_sem]
      first | refine ⟨_, c_swarfref02_Sqrt_f _ (by omega) hs, ?_⟩ | refine ⟨_, c_swarfref02_Sqrt_t _ (by omega) hs, ?_⟩
      refine hK17 _ ?_
      simp (disch := omega) only [go_sem]
      refine hK16 _ ?_
      clear hK17 K17 hK16 K16
      by_cases hcp : 0 < c
      · have hcpd := decide_eq_true hcp
        refine pwx_sr 0 [some 53, some 54, some 55, some 56, some 57, some 58, some 59, some 60, some 2] (by rfl) (fun K18 hK18 => ?_)
        refine rgnX_take 3 (fun K19 hK19 => ?_)
        simp (disch := omega) only [go_sem, hcpd, hs]
        refine ⟨_, c_swarfref02_Sign _, ?_⟩
        refine hK19 _ ?_
        simp (disch := omega) only [go_sem, hcpd, hs]
        refine hK18 _ ?_
        clear hK19 K19 hK18 K18
        refine pwp_ret ?_
        refine ⟨Or.inr rfl, ?_⟩
        simp (disch := omega) only [go_sem]
        all_goals simp_all [vldP]
      · have hcpd := decide_eq_false hcp
        refine pwx_sr 0 [some 53, some 54, some 55, some 56, some 57, some 58, some 59, some 60, some 2] (by rfl) (fun K20 hK20 => ?_)
        refine rgnX_take 3 (fun K21 hK21 => ?_)
        simp (disch := omega) only [go_sem, hcpd, hs]
        refine ⟨_, c_swarfref02_Sign _, ?_⟩
        refine hK21 _ ?_
        simp (disch := omega) only [go_sem, hcpd, hs]
        refine hK20 _ ?_
        clear hK21 K21 hK20 K20
        refine pwp_ret ?_
        refine ⟨Or.inr rfl, ?_⟩
        simp (disch := omega) only [go_sem]
        all_goals simp_all [vldP]
    · refine pwx_sr 1 [] (by rfl) (fun K22 hK22 => ?_)
      refine rgnX_take 3 (fun K23 hK23 => ?_)
      simp (disch := omega) only [go_sem]
      first | refine ⟨_, c_swarfref02_Sqrt_f _ (by omega) hs, ?_⟩ | refine ⟨_, c_swarfref02_Sqrt_t _ (by omega) hs, ?_⟩
      refine hK23 _ ?_
      simp (disch := omega) only [go_sem]
      refine hK22 _ ?_
      clear hK23 K23 hK22 K22
      by_cases hcp : 0 < c
      · have hcpd := decide_eq_true hcp
        refine pwx_sr 0 [some 53, some 54, some 55, some 56, some 57, some 58, some 59, some 60, some 2] (by rfl) (fun K24 hK24 => ?_)
        refine rgnX_take 3 (fun K25 hK25 => ?_)
        simp (disch := omega) only [go_sem, hcpd, hs]
        refine ⟨_, c_swarfref02_Sign _, ?_⟩
        refine hK25 _ ?_
        simp (disch := omega) only [go_sem, hcpd, hs]
        refine hK24 _ ?_
        clear hK25 K25 hK24 K24
        refine pwp_ret ?_
        refine ⟨Or.inr rfl, ?_⟩
        simp (disch := omega) only [go_sem]
        all_goals simp_all [vldP]
      · have hcpd := decide_eq_false hcp
        refine pwx_sr 0 [some 53, some 54, some 55, some 56, some 57, some 58, some 59, some 60, some 2] (by rfl) (fun K26 hK26 => ?_)
        refine rgnX_take 3 (fun K27 hK27 => ?_)
        simp (disch := omega) only [go_sem, hcpd, hs]
        refine ⟨_, c_swarfref02_Sign _, ?_⟩
        refine hK27 _ ?_
        simp (disch := omega) only [go_sem, hcpd, hs]
        refine hK26 _ ?_
        clear hK27 K27 hK26 K26
        refine pwp_ret ?_
        refine ⟨Or.inr rfl, ?_⟩
        simp (disch := omega) only [go_sem]
        all_goals simp_all [vldP]
  · have hbd := decide_eq_false hb0
    have hed := decide_eq_true he0
    refine pwx_sr 0 [some 33, some 34, some 35, some 36, some 37, some 38, some 39, some 40, some 41, some 42] (by rfl) (fun K28 hK28 => ?_)
    refine rgnX_take 3 (fun K29 hK29 => ?_)
    simp (disch := omega) only [go_sem, hbd, hed]
    refine ⟨_, c_swarfref02_Sign _, ?_⟩
    refine hK29 _ ?_
    refine rgnX_take 5 (fun K30 hK30 => ?_)
    simp (disch := omega) only [go_sem, hbd, hed]
    first | refine ⟨_, c_swarfref02_Sign _, ?_⟩ | skip
    refine hK30 _ ?_
    simp (disch := omega) only [go_sem, hbd, hed]
    refine hK28 _ ?_
    clear hK30 K30 hK29 K29 hK28 K28
    refine pwp_cond (b := false) (by rfl) (fun h => nomatch h) (fun _ => ?_)
    refine pwp_skip ?_
    refine n_then ?_
    rcases hs : sqB c with _ | _
    · refine pwx_sr 1 [] (by rfl) (fun K31 hK31 => ?_)
      refine rgnX_take 3 (fun K32 hK32 => ?_)
      simp (disch := omega) only [go_sem]
      first | refine ⟨_, c_swarfref02_Sqrt_f _ (by omega) hs, ?_⟩ | refine ⟨_, c_swarfref02_Sqrt_t _ (by omega) hs, ?_⟩
      refine hK32 _ ?_
      simp (disch := omega) only [go_sem]
      refine hK31 _ ?_
      clear hK32 K32 hK31 K31
      by_cases hcp : 0 < c
      · have hcpd := decide_eq_true hcp
        refine pwx_sr 0 [some 53, some 54, some 55, some 56, some 57, some 58, some 59, some 60, some 2] (by rfl) (fun K33 hK33 => ?_)
        refine rgnX_take 3 (fun K34 hK34 => ?_)
        simp (disch := omega) only [go_sem, hcpd, hs]
        refine ⟨_, c_swarfref02_Sign _, ?_⟩
        refine hK34 _ ?_
        simp (disch := omega) only [go_sem, hcpd, hs]
        refine hK33 _ ?_
        clear hK34 K34 hK33 K33
        refine pwp_ret ?_
        refine ⟨Or.inr rfl, ?_⟩
        simp (disch := omega) only [go_sem]
        all_goals simp_all [vldP]
      · have hcpd := decide_eq_false hcp
        refine pwx_sr 0 [some 53, some 54, some 55, some 56, some 57, some 58, some 59, some 60, some 2] (by rfl) (fun K35 hK35 => ?_)
        refine rgnX_take 3 (fun K36 hK36 => ?_)
        simp (disch := omega) only [go_sem, hcpd, hs]
        refine ⟨_, c_swarfref02_Sign _, ?_⟩
        refine hK36 _ ?_
        simp (disch := omega) only [go_sem, hcpd, hs]
        refine hK35 _ ?_
        clear hK36 K36 hK35 K35
        refine pwp_ret ?_
        refine ⟨Or.inr rfl, ?_⟩
        simp (disch := omega) only [go_sem]
        all_goals simp_all [vldP]
    · refine pwx_sr 1 [] (by rfl) (fun K37 hK37 => ?_)
      refine rgnX_take 3 (fun K38 hK38 => ?_)
      simp (disch := omega) only [go_sem]
      first | refine ⟨_, c_swarfref02_Sqrt_f _ (by omega) hs, ?_⟩ | refine ⟨_, c_swarfref02_Sqrt_t _ (by omega) hs, ?_⟩
      refine hK38 _ ?_
      simp (disch := omega) only [go_sem]
      refine hK37 _ ?_
      clear hK38 K38 hK37 K37
      by_cases hcp : 0 < c
      · have hcpd := decide_eq_true hcp
        refine pwx_sr 0 [some 53, some 54, some 55, some 56, some 57, some 58, some 59, some 60, some 2] (by rfl) (fun K39 hK39 => ?_)
        refine rgnX_take 3 (fun K40 hK40 => ?_)
        simp (disch := omega) only [go_sem, hcpd, hs]
        refine ⟨_, c_swarfref02_Sign _, ?_⟩
        refine hK40 _ ?_
        simp (disch := omega) only [go_sem, hcpd, hs]
        refine hK39 _ ?_
        clear hK40 K40 hK39 K39
        refine pwp_ret ?_
        refine ⟨Or.inr rfl, ?_⟩
        simp (disch := omega) only [go_sem]
        all_goals simp_all [vldP]
      · have hcpd := decide_eq_false hcp
        refine pwx_sr 0 [some 53, some 54, some 55, some 56, some 57, some 58, some 59, some 60, some 2] (by rfl) (fun K41 hK41 => ?_)
        refine rgnX_take 3 (fun K42 hK42 => ?_)
        simp (disch := omega) only [go_sem, hcpd, hs]
        refine ⟨_, c_swarfref02_Sign _, ?_⟩
        refine hK42 _ ?_
        simp (disch := omega) only [go_sem, hcpd, hs]
        refine hK41 _ ?_
        clear hK42 K42 hK41 K41
        refine pwp_ret ?_
        refine ⟨Or.inr rfl, ?_⟩
        simp (disch := omega) only [go_sem]
        all_goals simp_all [vldP]
  · have hbd := decide_eq_false hb0
    have hed := decide_eq_false he0
    refine pwx_sr 0 [some 33, some 34, some 35, some 36, some 37, some 38, some 39, some 40, some 41, some 42] (by rfl) (fun K43 hK43 => ?_)
    refine rgnX_take 3 (fun K44 hK44 => ?_)
    simp (disch := omega) only [go_sem, hbd, hed]
    refine ⟨_, c_swarfref02_Sign _, ?_⟩
    refine hK44 _ ?_
    refine rgnX_take 5 (fun K45 hK45 => ?_)
    simp (disch := omega) only [go_sem, hbd, hed]
    first | refine ⟨_, c_swarfref02_Sign _, ?_⟩ | skip
    refine hK45 _ ?_
    simp (disch := omega) only [go_sem, hbd, hed]
    refine hK43 _ ?_
    clear hK45 K45 hK44 K44 hK43 K43
    refine pwp_cond (b := false) (by rfl) (fun h => nomatch h) (fun _ => ?_)
    refine pwp_skip ?_
    refine n_then ?_
    rcases hs : sqB c with _ | _
    · refine pwx_sr 1 [] (by rfl) (fun K46 hK46 => ?_)
      refine rgnX_take 3 (fun K47 hK47 => ?_)
      simp (disch := omega) only [go_sem]
      first | refine ⟨_, c_swarfref02_Sqrt_f _ (by omega) hs, ?_⟩ | refine ⟨_, c_swarfref02_Sqrt_t _ (by omega) hs, ?_⟩
      refine hK47 _ ?_
      simp (disch := omega) only [go_sem]
      refine hK46 _ ?_
      clear hK47 K47 hK46 K46
      by_cases hcp : 0 < c
      · have hcpd := decide_eq_true hcp
        refine pwx_sr 0 [some 53, some 54, some 55, some 56, some 57, some 58, some 59, some 60, some 2] (by rfl) (fun K48 hK48 => ?_)
        refine rgnX_take 3 (fun K49 hK49 => ?_)
        simp (disch := omega) only [go_sem, hcpd, hs]
        refine ⟨_, c_swarfref02_Sign _, ?_⟩
        refine hK49 _ ?_
        simp (disch := omega) only [go_sem, hcpd, hs]
        refine hK48 _ ?_
        clear hK49 K49 hK48 K48
        refine pwp_ret ?_
        refine ⟨Or.inr rfl, ?_⟩
        simp (disch := omega) only [go_sem]
        all_goals simp_all [vldP]
      · have hcpd := decide_eq_false hcp
        refine pwx_sr 0 [some 53, some 54, some 55, some 56, some 57, some 58, some 59, some 60, some 2] (by rfl) (fun K50 hK50 => ?_)
        refine rgnX_take 3 (fun K51 hK51 => ?_)
        simp (disch := omega) only [go_sem, hcpd, hs]
        refine ⟨_, c_swarfref02_Sign _, ?_⟩
        refine hK51 _ ?_
        simp (disch := omega) only [go_sem, hcpd, hs]
        refine hK50 _ ?_
        clear hK51 K51 hK50 K50
        refine pwp_ret ?_
        refine ⟨Or.inr rfl, ?_⟩
        simp (disch := omega) only [go_sem]
        all_goals simp_all [vldP]
    · refine pwx_sr 1 [] (by rfl) (fun K52 hK52 => ?_)
      refine rgnX_take 3 (fun K53 hK53 => ?_)
      simp (disch := omega) only [go_sem]
      first | refine ⟨_, c_swarfref02_Sqrt_f _ (by omega) hs, ?_⟩ | refine ⟨_, c_swarfref02_Sqrt_t _ (by omega) hs, ?_⟩
      refine hK53 _ ?_
      simp (disch := omega) only [go_sem]
      refine hK52 _ ?_
      clear hK53 K53 hK52 K52
      by_cases hcp : 0 < c
      · have hcpd := decide_eq_true hcp
        refine pwx_sr 0 [some 53, some 54, some 55, some 56, some 57, some 58, some 59, some 60, some 2] (by rfl) (fun K54 hK54 => ?_)
        refine rgnX_take 3 (fun K55 hK55 => ?_)
        simp (disch := omega) only [go_sem, hcpd, hs]
        refine ⟨_, c_swarfref02_Sign _, ?_⟩
        refine hK55 _ ?_
        simp (disch := omega) only [go_sem, hcpd, hs]
        refine hK54 _ ?_
        clear hK55 K55 hK54 K54
        refine pwp_ret ?_
        refine ⟨Or.inr rfl, ?_⟩
        simp (disch := omega) only [go_sem]
        all_goals simp_all [vldP]
      · have hcpd := decide_eq_false hcp
        refine pwx_sr 0 [some 53, some 54, some 55, some 56, some 57, some 58, some 59, some 60, some 2] (by rfl) (fun K56 hK56 => ?_)
        refine rgnX_take 3 (fun K57 hK57 => ?_)
        simp (disch := omega) only [go_sem, hcpd, hs]
        refine ⟨_, c_swarfref02_Sign _, ?_⟩
        refine hK57 _ ?_
        simp (disch := omega) only [go_sem, hcpd, hs]
        refine hK56 _ ?_
        clear hK57 K57 hK56 K56
        refine pwp_ret ?_
        refine ⟨Or.inr rfl, ?_⟩
        simp (disch := omega) only [go_sem]
        all_goals simp_all [vldP]
end Go.Proofs.YtbadkjfjdkbgfaaGreat

namespace Go.PL
open Go.RL
instance : SzR 3 1 := ⟨szi_lit (by decide), szi_lit (by decide)⟩
instance : SzR 5 1 := ⟨szi_lit (by decide), szi_lit (by decide)⟩
instance : SzR 8 1 := ⟨szi_lit (by decide), szi_lit (by decide)⟩
instance : SzR (-1) 1 := ⟨szi_lit (by decide), szi_lit (by decide)⟩
theorem ex_k1 : rK 1 2 0 = 2 := by decide +kernel
theorem ex_k2 : rK 1 8 0 = 8 := by decide +kernel
theorem ex_k3 : rK 2 2 0 = 2 := by decide +kernel
theorem ex_k4 : rK 1 2 2 = 2 := by decide +kernel
theorem ex_p1 : pC 1 0 2 = 2 := by decide +kernel
theorem ex_p2 : pC 1 0 8 = 8 := by decide +kernel
theorem ex_p3 : pC 2 0 2 = 2 := by decide +kernel
theorem ex_p4 : pC 1 1 2 = 2 := by decide +kernel
theorem ex_r1 : rC 1 2 = 2 := by decide +kernel
theorem ex_r2 : rC 0 2 = 0 := by decide +kernel
theorem ex_r3 : rC (-2) 2 = 2 := by decide +kernel
theorem ex_c1 : cmpP 0 1 0 0 8 0 2 0 0 2 = 0 := by decide +kernel
theorem ex_c2 : cmpP 0 1 0 0 8 3 0 (-1) 0 0 = -1 := by decide +kernel
theorem ex_s1 : sqA 0 1 0 1 2 1 0 = 5 := by decide +kernel
theorem ex_s2 : sqB2 0 1 0 1 1 0 = -2 := by decide +kernel
theorem ex_i0 : ((0 : Int) : Rat) = 0 := rfl
theorem ex_i1 : ((1 : Int) : Rat) = 1 := rfl
theorem ex_i3 : ((3 : Int) : Rat) = 3 := rfl
theorem ex_im : ((-1 : Int) : Rat) = -1 := rfl
end Go.PL

set_option linter.unusedSimpArgs false
set_option linter.unusedVariables false
set_option maxRecDepth 20000
namespace Go.Proofs.YtbadkjfjdkbgfaaGreat
open Go Go.PL Go.RL
set_option maxHeartbeats 4000000 in
theorem c_swarflaw07_root_t (x y : Int) (z : Nat) (hx0 : -32768 ≤ x) (hx1 : x < 32768) (hy0 : -32768 ≤ y) (hy1 : y < 32768) (hz : z < 65536) (hs : sqB (Rat.divInt (z : Int) ((0 + 1 : Nat) : Int)) = true) :
    Ret Tryz.prog 48 [.c (.int .i16 x), .c (.int .i16 y), .c (.int .u16 (z : Int))] (.e (.a (ratC (Rat.divInt x ((0 + 1 : Nat) : Int) + Rat.divInt y ((0 + 1 : Nat) : Int) * rtR (Rat.divInt (z : Int) ((0 + 1 : Nat) : Int))) ++ (ratC (0) ++ ratC (0))))) := by
  refine ret_of_body (md := {}) Tryz.func48 (by kernel_rfl) rfl ?_
  simp only [Tryz.f48, List.map_cons, List.map_nil, List.length_cons, List.length_nil, Nat.zero_add, Nat.reduceAdd, Nat.reduceSub, List.reduceReplicate, List.cons_append, List.nil_append]
  refine pwx_sr 1 [] (by rfl) (fun K1 hK1 => ?_)
  simp (disch := omega) only [go_sem]
  refine hK1 _ ?_
  clear hK1 K1
  refine pwx_sr 0 [] (by rfl) (fun K2 hK2 => ?_)
  refine rgnX_take 5 (fun K3 hK3 => ?_)
  simp (disch := omega) only [go_sem]
  refine ⟨_, c_swarfref03_Of_t x y z 0 0 0 (by omega) (by omega) (by omega) (by omega) (by omega) (by omega) (by omega) (by omega) hs, ?_⟩
  refine hK3 _ ?_
  simp (disch := omega) only [go_sem]
  refine hK2 _ ?_
  clear hK3 K3 hK2 K2
  refine pwp_ret ?_
  refine ⟨Or.inr rfl, ?_⟩
  simp (disch := omega) only [go_sem]
set_option maxHeartbeats 4000000 in
theorem c_swarflaw07_root_f (x y : Int) (z : Nat) (hx0 : -32768 ≤ x) (hx1 : x < 32768) (hy0 : -32768 ≤ y) (hy1 : y < 32768) (hz : z < 65536) (hs : sqB (Rat.divInt (z : Int) ((0 + 1 : Nat) : Int)) = false) :
    Ret Tryz.prog 48 [.c (.int .i16 x), .c (.int .i16 y), .c (.int .u16 (z : Int))] (.e (.a (ratC (Rat.divInt x ((0 + 1 : Nat) : Int)) ++ (ratC (r3B (Rat.divInt y ((0 + 1 : Nat) : Int)) (Rat.divInt (z : Int) ((0 + 1 : Nat) : Int))) ++ ratC (r3C (Rat.divInt y ((0 + 1 : Nat) : Int)) (Rat.divInt (z : Int) ((0 + 1 : Nat) : Int))))))) := by
  refine ret_of_body (md := {}) Tryz.func48 (by kernel_rfl) rfl ?_
  simp only [Tryz.f48, List.map_cons, List.map_nil, List.length_cons, List.length_nil, Nat.zero_add, Nat.reduceAdd, Nat.reduceSub, List.reduceReplicate, List.cons_append, List.nil_append]
  refine pwx_sr 1 [] (by rfl) (fun K1 hK1 => ?_)
  simp (disch := omega) only [go_sem]
  refine hK1 _ ?_
  clear hK1 K1
  refine pwx_sr 0 [] (by rfl) (fun K2 hK2 => ?_)
  refine rgnX_take 5 (fun K3 hK3 => ?_)
  simp (disch := omega) only [go_sem]
  refine ⟨_, c_swarfref03_Of_f x y z 0 0 0 (by omega) (by omega) (by omega) (by omega) (by omega) (by omega) (by omega) (by omega) hs, ?_⟩
  refine hK3 _ ?_
  simp (disch := omega) only [go_sem]
  refine hK2 _ ?_
  clear hK3 K3 hK2 K2
  refine pwp_ret ?_
  refine ⟨Or.inr rfl, ?_⟩
  simp (disch := omega) only [go_sem]
theorem ex_root_1_1_2 : Ret Tryz.prog 48 [.c (.int .i16 1), .c (.int .i16 1), .c (.int .u16 2)] (.e (.a (ratC (1) ++ (ratC (1) ++ ratC (2))))) := by
  have h := c_swarflaw07_root_f 1 1 2 (by omega) (by omega) (by omega) (by omega) (by omega) (by decide +kernel)
  have e0 : (Rat.divInt 1 ((0 + 1 : Nat) : Int)) = 1 := by decide +kernel
  have e1 : r3B (Rat.divInt 1 ((0 + 1 : Nat) : Int)) (Rat.divInt ((2 : Nat) : Int) ((0 + 1 : Nat) : Int)) = 1 := by decide +kernel
  have e2 : r3C (Rat.divInt 1 ((0 + 1 : Nat) : Int)) (Rat.divInt ((2 : Nat) : Int) ((0 + 1 : Nat) : Int)) = 2 := by decide +kernel
  rw [e1, e2, e0] at h
  exact h
theorem ex_root_3_0_0 : Ret Tryz.prog 48 [.c (.int .i16 3), .c (.int .i16 0), .c (.int .u16 0)] (.e (.a (ratC (3) ++ (ratC (0) ++ ratC (0))))) := by
  have h := c_swarflaw07_root_t 3 0 0 (by omega) (by omega) (by omega) (by omega) (by omega) (by decide +kernel)
  rw [show (Rat.divInt 3 ((0 + 1 : Nat) : Int) + Rat.divInt 0 ((0 + 1 : Nat) : Int) * rtR (Rat.divInt ((0 : Nat) : Int) ((0 + 1 : Nat) : Int))) = 3 from by decide +kernel] at h
  exact h
theorem ex_root_0_1_8 : Ret Tryz.prog 48 [.c (.int .i16 0), .c (.int .i16 1), .c (.int .u16 8)] (.e (.a (ratC (0) ++ (ratC (1) ++ ratC (8))))) := by
  have h := c_swarflaw07_root_f 0 1 8 (by omega) (by omega) (by omega) (by omega) (by omega) (by decide +kernel)
  have e0 : (Rat.divInt 0 ((0 + 1 : Nat) : Int)) = 0 := by decide +kernel
  have e1 : r3B (Rat.divInt 1 ((0 + 1 : Nat) : Int)) (Rat.divInt ((8 : Nat) : Int) ((0 + 1 : Nat) : Int)) = 1 := by decide +kernel
  have e2 : r3C (Rat.divInt 1 ((0 + 1 : Nat) : Int)) (Rat.divInt ((8 : Nat) : Int) ((0 + 1 : Nat) : Int)) = 8 := by decide +kernel
  rw [e1, e2, e0] at h
  exact h
theorem ex_root_0_0_0 : Ret Tryz.prog 48 [.c (.int .i16 0), .c (.int .i16 0), .c (.int .u16 0)] (.e (.a (ratC (0) ++ (ratC (0) ++ ratC (0))))) := by
  have h := c_swarflaw07_root_t 0 0 0 (by omega) (by omega) (by omega) (by omega) (by omega) (by decide +kernel)
  rw [show (Rat.divInt 0 ((0 + 1 : Nat) : Int) + Rat.divInt 0 ((0 + 1 : Nat) : Int) * rtR (Rat.divInt ((0 : Nat) : Int) ((0 + 1 : Nat) : Int))) = 0 from by decide +kernel] at h
  exact h
theorem ex_root_0_2_2 : Ret Tryz.prog 48 [.c (.int .i16 0), .c (.int .i16 2), .c (.int .u16 2)] (.e (.a (ratC (0) ++ (ratC (2) ++ ratC (2))))) := by
  have h := c_swarflaw07_root_f 0 2 2 (by omega) (by omega) (by omega) (by omega) (by omega) (by decide +kernel)
  have e0 : (Rat.divInt 0 ((0 + 1 : Nat) : Int)) = 0 := by decide +kernel
  have e1 : r3B (Rat.divInt 2 ((0 + 1 : Nat) : Int)) (Rat.divInt ((2 : Nat) : Int) ((0 + 1 : Nat) : Int)) = 2 := by decide +kernel
  have e2 : r3C (Rat.divInt 2 ((0 + 1 : Nat) : Int)) (Rat.divInt ((2 : Nat) : Int) ((0 + 1 : Nat) : Int)) = 2 := by decide +kernel
  rw [e1, e2, e0] at h
  exact h
theorem ex_root_0_1_2 : Ret Tryz.prog 48 [.c (.int .i16 0), .c (.int .i16 1), .c (.int .u16 2)] (.e (.a (ratC (0) ++ (ratC (1) ++ ratC (2))))) := by
  have h := c_swarflaw07_root_f 0 1 2 (by omega) (by omega) (by omega) (by omega) (by omega) (by decide +kernel)
  have e0 : (Rat.divInt 0 ((0 + 1 : Nat) : Int)) = 0 := by decide +kernel
  have e1 : r3B (Rat.divInt 1 ((0 + 1 : Nat) : Int)) (Rat.divInt ((2 : Nat) : Int) ((0 + 1 : Nat) : Int)) = 1 := by decide +kernel
  have e2 : r3C (Rat.divInt 1 ((0 + 1 : Nat) : Int)) (Rat.divInt ((2 : Nat) : Int) ((0 + 1 : Nat) : Int)) = 2 := by decide +kernel
  rw [e1, e2, e0] at h
  exact h
theorem ex_root_0_1_3 : Ret Tryz.prog 48 [.c (.int .i16 0), .c (.int .i16 1), .c (.int .u16 3)] (.e (.a (ratC (0) ++ (ratC (1) ++ ratC (3))))) := by
  have h := c_swarflaw07_root_f 0 1 3 (by omega) (by omega) (by omega) (by omega) (by omega) (by decide +kernel)
  have e0 : (Rat.divInt 0 ((0 + 1 : Nat) : Int)) = 0 := by decide +kernel
  have e1 : r3B (Rat.divInt 1 ((0 + 1 : Nat) : Int)) (Rat.divInt ((3 : Nat) : Int) ((0 + 1 : Nat) : Int)) = 1 := by decide +kernel
  have e2 : r3C (Rat.divInt 1 ((0 + 1 : Nat) : Int)) (Rat.divInt ((3 : Nat) : Int) ((0 + 1 : Nat) : Int)) = 3 := by decide +kernel
  rw [e1, e2, e0] at h
  exact h
theorem ex_root_5_2_2 : Ret Tryz.prog 48 [.c (.int .i16 5), .c (.int .i16 (-2)), .c (.int .u16 2)] (.e (.a (ratC (5) ++ (ratC ((-2)) ++ ratC (2))))) := by
  have h := c_swarflaw07_root_f 5 (-2) 2 (by omega) (by omega) (by omega) (by omega) (by omega) (by decide +kernel)
  have e0 : (Rat.divInt 5 ((0 + 1 : Nat) : Int)) = 5 := by decide +kernel
  have e1 : r3B (Rat.divInt (-2) ((0 + 1 : Nat) : Int)) (Rat.divInt ((2 : Nat) : Int) ((0 + 1 : Nat) : Int)) = (-2) := by decide +kernel
  have e2 : r3C (Rat.divInt (-2) ((0 + 1 : Nat) : Int)) (Rat.divInt ((2 : Nat) : Int) ((0 + 1 : Nat) : Int)) = 2 := by decide +kernel
  rw [e1, e2, e0] at h
  exact h
set_option maxHeartbeats 4000000 in
theorem c_swarflaw07_awake :
    Ret Tryz.prog 11 [] (.e (.c (.bool true))) := by
  refine ret_of_body (md := {}) Tryz.func11 (by kernel_rfl) rfl ?_
  simp only [Tryz.f11, List.map_cons, List.map_nil, List.length_cons, List.length_nil, Nat.zero_add, Nat.reduceAdd, Nat.reduceSub, List.reduceReplicate, List.cons_append, List.nil_append]
  refine pwx_sr 0 [] (by rfl) (fun K1 hK1 => ?_)
  simp (disch := omega) only [go_sem, ex_k1, ex_k2, ex_k3, ex_k4, ex_p1, ex_p2, ex_p3, ex_p4, ex_r1, ex_r2, ex_r3, ex_c1, ex_c2, ex_s1, ex_s2, ex_i0, ex_i1, ex_i3, ex_im, eq_self]
  refine hK1 _ ?_
  clear hK1 K1
  refine pwx_sr 1 [] (by rfl) (fun K2 hK2 => ?_)
  refine rgnX_take 1 (fun K3 hK3 => ?_)
  simp (disch := omega) only [go_sem, ex_k1, ex_k2, ex_k3, ex_k4, ex_p1, ex_p2, ex_p3, ex_p4, ex_r1, ex_r2, ex_r3, ex_c1, ex_c2, ex_s1, ex_s2, ex_i0, ex_i1, ex_i3, ex_im, eq_self]
  refine ⟨_, ex_root_1_1_2, ?_⟩
  refine hK3 _ ?_
  refine rgnX_take 1 (fun K4 hK4 => ?_)
  simp (disch := omega) only [go_sem, ex_k1, ex_k2, ex_k3, ex_k4, ex_p1, ex_p2, ex_p3, ex_p4, ex_r1, ex_r2, ex_r3, ex_c1, ex_c2, ex_s1, ex_s2, ex_i0, ex_i1, ex_i3, ex_im, eq_self]
  refine ⟨_, ex_root_3_0_0, ?_⟩
  refine hK4 _ ?_
  refine rgnX_take 1 (fun K5 hK5 => ?_)
  simp (disch := omega) only [go_sem, ex_k1, ex_k2, ex_k3, ex_k4, ex_p1, ex_p2, ex_p3, ex_p4, ex_r1, ex_r2, ex_r3, ex_c1, ex_c2, ex_s1, ex_s2, ex_i0, ex_i1, ex_i3, ex_im, eq_self]
  refine ⟨_, c_point_Make_t _ _ _ _ _ _ (by omega) (by decide), ?_⟩
  refine hK5 _ ?_
  simp (disch := omega) only [go_sem, ex_k1, ex_k2, ex_k3, ex_k4, ex_p1, ex_p2, ex_p3, ex_p4, ex_r1, ex_r2, ex_r3, ex_c1, ex_c2, ex_s1, ex_s2, ex_i0, ex_i1, ex_i3, ex_im, eq_self]
  refine hK2 _ ?_
  clear hK5 K5 hK4 K4 hK3 K3 hK2 K2
  refine pwx_sr 1 [] (by rfl) (fun K6 hK6 => ?_)
  refine rgnX_take 1 (fun K7 hK7 => ?_)
  simp (disch := omega) only [go_sem, ex_k1, ex_k2, ex_k3, ex_k4, ex_p1, ex_p2, ex_p3, ex_p4, ex_r1, ex_r2, ex_r3, ex_c1, ex_c2, ex_s1, ex_s2, ex_i0, ex_i1, ex_i3, ex_im, eq_self]
  refine ⟨_, ex_root_0_1_8, ?_⟩
  refine hK7 _ ?_
  refine rgnX_take 1 (fun K8 hK8 => ?_)
  simp (disch := omega) only [go_sem, ex_k1, ex_k2, ex_k3, ex_k4, ex_p1, ex_p2, ex_p3, ex_p4, ex_r1, ex_r2, ex_r3, ex_c1, ex_c2, ex_s1, ex_s2, ex_i0, ex_i1, ex_i3, ex_im, eq_self]
  refine ⟨_, ex_root_0_0_0, ?_⟩
  refine hK8 _ ?_
  refine rgnX_take 1 (fun K9 hK9 => ?_)
  simp (disch := omega) only [go_sem, ex_k1, ex_k2, ex_k3, ex_k4, ex_p1, ex_p2, ex_p3, ex_p4, ex_r1, ex_r2, ex_r3, ex_c1, ex_c2, ex_s1, ex_s2, ex_i0, ex_i1, ex_i3, ex_im, eq_self]
  refine ⟨_, c_point_Make_t _ _ _ _ _ _ (by omega) (by decide), ?_⟩
  refine hK9 _ ?_
  simp (disch := omega) only [go_sem, ex_k1, ex_k2, ex_k3, ex_k4, ex_p1, ex_p2, ex_p3, ex_p4, ex_r1, ex_r2, ex_r3, ex_c1, ex_c2, ex_s1, ex_s2, ex_i0, ex_i1, ex_i3, ex_im, eq_self]
  refine hK6 _ ?_
  clear hK9 K9 hK8 K8 hK7 K7 hK6 K6
  refine pwx_sr 1 [] (by rfl) (fun K10 hK10 => ?_)
  refine rgnX_take 1 (fun K11 hK11 => ?_)
  simp (disch := omega) only [go_sem, ex_k1, ex_k2, ex_k3, ex_k4, ex_p1, ex_p2, ex_p3, ex_p4, ex_r1, ex_r2, ex_r3, ex_c1, ex_c2, ex_s1, ex_s2, ex_i0, ex_i1, ex_i3, ex_im, eq_self]
  refine ⟨_, ex_root_0_2_2, ?_⟩
  refine hK11 _ ?_
  refine rgnX_take 1 (fun K12 hK12 => ?_)
  simp (disch := omega) only [go_sem, ex_k1, ex_k2, ex_k3, ex_k4, ex_p1, ex_p2, ex_p3, ex_p4, ex_r1, ex_r2, ex_r3, ex_c1, ex_c2, ex_s1, ex_s2, ex_i0, ex_i1, ex_i3, ex_im, eq_self]
  refine ⟨_, ex_root_0_0_0, ?_⟩
  refine hK12 _ ?_
  refine rgnX_take 1 (fun K13 hK13 => ?_)
  simp (disch := omega) only [go_sem, ex_k1, ex_k2, ex_k3, ex_k4, ex_p1, ex_p2, ex_p3, ex_p4, ex_r1, ex_r2, ex_r3, ex_c1, ex_c2, ex_s1, ex_s2, ex_i0, ex_i1, ex_i3, ex_im, eq_self]
  refine ⟨_, c_point_Make_t _ _ _ _ _ _ (by omega) (by decide), ?_⟩
  refine hK13 _ ?_
  simp (disch := omega) only [go_sem, ex_k1, ex_k2, ex_k3, ex_k4, ex_p1, ex_p2, ex_p3, ex_p4, ex_r1, ex_r2, ex_r3, ex_c1, ex_c2, ex_s1, ex_s2, ex_i0, ex_i1, ex_i3, ex_im, eq_self]
  refine hK10 _ ?_
  clear hK13 K13 hK12 K12 hK11 K11 hK10 K10
  refine pwx_sr 1 [] (by rfl) (fun K14 hK14 => ?_)
  refine rgnX_take 1 (fun K15 hK15 => ?_)
  simp (disch := omega) only [go_sem, ex_k1, ex_k2, ex_k3, ex_k4, ex_p1, ex_p2, ex_p3, ex_p4, ex_r1, ex_r2, ex_r3, ex_c1, ex_c2, ex_s1, ex_s2, ex_i0, ex_i1, ex_i3, ex_im, eq_self]
  refine ⟨_, ex_root_0_1_2, ?_⟩
  refine hK15 _ ?_
  refine rgnX_take 1 (fun K16 hK16 => ?_)
  simp (disch := omega) only [go_sem, ex_k1, ex_k2, ex_k3, ex_k4, ex_p1, ex_p2, ex_p3, ex_p4, ex_r1, ex_r2, ex_r3, ex_c1, ex_c2, ex_s1, ex_s2, ex_i0, ex_i1, ex_i3, ex_im, eq_self]
  refine ⟨_, ex_root_0_1_2, ?_⟩
  refine hK16 _ ?_
  refine rgnX_take 1 (fun K17 hK17 => ?_)
  simp (disch := omega) only [go_sem, ex_k1, ex_k2, ex_k3, ex_k4, ex_p1, ex_p2, ex_p3, ex_p4, ex_r1, ex_r2, ex_r3, ex_c1, ex_c2, ex_s1, ex_s2, ex_i0, ex_i1, ex_i3, ex_im, eq_self]
  refine ⟨_, c_point_Make_t _ _ _ _ _ _ (by omega) (by decide), ?_⟩
  refine hK17 _ ?_
  simp (disch := omega) only [go_sem, ex_k1, ex_k2, ex_k3, ex_k4, ex_p1, ex_p2, ex_p3, ex_p4, ex_r1, ex_r2, ex_r3, ex_c1, ex_c2, ex_s1, ex_s2, ex_i0, ex_i1, ex_i3, ex_im, eq_self]
  refine hK14 _ ?_
  clear hK17 K17 hK16 K16 hK15 K15 hK14 K14
  refine pwx_sr 1 [] (by rfl) (fun K18 hK18 => ?_)
  refine rgnX_take 1 (fun K19 hK19 => ?_)
  simp (disch := omega) only [go_sem, ex_k1, ex_k2, ex_k3, ex_k4, ex_p1, ex_p2, ex_p3, ex_p4, ex_r1, ex_r2, ex_r3, ex_c1, ex_c2, ex_s1, ex_s2, ex_i0, ex_i1, ex_i3, ex_im, eq_self]
  refine ⟨_, ex_root_0_1_2, ?_⟩
  refine hK19 _ ?_
  refine rgnX_take 1 (fun K20 hK20 => ?_)
  simp (disch := omega) only [go_sem, ex_k1, ex_k2, ex_k3, ex_k4, ex_p1, ex_p2, ex_p3, ex_p4, ex_r1, ex_r2, ex_r3, ex_c1, ex_c2, ex_s1, ex_s2, ex_i0, ex_i1, ex_i3, ex_im, eq_self]
  refine ⟨_, ex_root_0_1_3, ?_⟩
  refine hK20 _ ?_
  refine rgnX_take 1 (fun K21 hK21 => ?_)
  simp (disch := omega) only [go_sem, ex_k1, ex_k2, ex_k3, ex_k4, ex_p1, ex_p2, ex_p3, ex_p4, ex_r1, ex_r2, ex_r3, ex_c1, ex_c2, ex_s1, ex_s2, ex_i0, ex_i1, ex_i3, ex_im, eq_self]
  refine ⟨_, c_point_Make_f _ _ _ _ _ _ (by omega) (by decide), ?_⟩
  refine hK21 _ ?_
  simp (disch := omega) only [go_sem, ex_k1, ex_k2, ex_k3, ex_k4, ex_p1, ex_p2, ex_p3, ex_p4, ex_r1, ex_r2, ex_r3, ex_c1, ex_c2, ex_s1, ex_s2, ex_i0, ex_i1, ex_i3, ex_im, eq_self]
  refine hK18 _ ?_
  clear hK21 K21 hK20 K20 hK19 K19 hK18 K18
  refine pwp_seq ?_
  refine pwx_sr 0 [some 42, some 43, some 44, some 45, some 46, some 47, some 48, some 49, some 50, some 51, some 52, some 53, some 54, some 55, some 56, some 57, some 58, some 59] (by rfl) (fun K22 hK22 => ?_)
  simp (disch := omega) only [go_sem, ex_k1, ex_k2, ex_k3, ex_k4, ex_p1, ex_p2, ex_p3, ex_p4, ex_r1, ex_r2, ex_r3, ex_c1, ex_c2, ex_s1, ex_s2, ex_i0, ex_i1, ex_i3, ex_im, eq_self]
  refine hK22 _ ?_
  clear hK22 K22
  refine pwp_cond (b := false) (by rfl) (fun h => nomatch h) (fun _ => ?_)
  refine pwp_skip ?_
  refine n_then ?_
  refine pwx_sr 1 [] (by rfl) (fun K23 hK23 => ?_)
  refine rgnX_take 2 (fun K24 hK24 => ?_)
  simp (disch := omega) only [go_sem, ex_k1, ex_k2, ex_k3, ex_k4, ex_p1, ex_p2, ex_p3, ex_p4, ex_r1, ex_r2, ex_r3, ex_c1, ex_c2, ex_s1, ex_s2, ex_i0, ex_i1, ex_i3, ex_im, eq_self]
  refine ⟨_, c_point_OfGrid _ _ (by omega) (by omega) (by omega) (by omega), ?_⟩
  refine hK24 _ ?_
  simp (disch := omega) only [go_sem, ex_k1, ex_k2, ex_k3, ex_k4, ex_p1, ex_p2, ex_p3, ex_p4, ex_r1, ex_r2, ex_r3, ex_c1, ex_c2, ex_s1, ex_s2, ex_i0, ex_i1, ex_i3, ex_im, eq_self]
  refine hK23 _ ?_
  clear hK24 K24 hK23 K23
  refine pwx_sd Tryz.mixed 0 [some 62, some 63, some 64, some 65, some 66, some 67, some 68, some 69, some 70, some 71, some 72, some 73, some 74, some 75, some 76, some 77, some 78, some 79, some 80, some 81, some 82, some 83, some 84, some 85, some 86, some 87, some 88, some 89, some 0] (by rfl) [] (by kernel_rfl) (by simp) (fun K25 hK25 => ?_)
  refine rgnX_take 2 (fun K26 hK26 => ?_)
  simp (disch := omega) only [go_sem, ex_k1, ex_k2, ex_k3, ex_k4, ex_p1, ex_p2, ex_p3, ex_p4, ex_r1, ex_r2, ex_r3, ex_c1, ex_c2, ex_s1, ex_s2, ex_i0, ex_i1, ex_i3, ex_im, eq_self]
  refine ⟨_, c_point_X _ _ _ _ _, ?_⟩
  refine hK26 _ ?_
  refine rgnX_take 1 (fun K27 hK27 => ?_)
  simp (disch := omega) only [go_sem, ex_k1, ex_k2, ex_k3, ex_k4, ex_p1, ex_p2, ex_p3, ex_p4, ex_r1, ex_r2, ex_r3, ex_c1, ex_c2, ex_s1, ex_s2, ex_i0, ex_i1, ex_i3, ex_im, eq_self]
  refine ⟨_, ex_root_1_1_2, ?_⟩
  refine hK27 _ ?_
  refine rgnX_take 1 (fun K28 hK28 => ?_)
  simp (disch := omega) only [go_sem, ex_k1, ex_k2, ex_k3, ex_k4, ex_p1, ex_p2, ex_p3, ex_p4, ex_r1, ex_r2, ex_r3, ex_c1, ex_c2, ex_s1, ex_s2, ex_i0, ex_i1, ex_i3, ex_im, eq_self]
  refine ⟨_, c_swarfref03_Same _ _ _ _ _ _ (by omega), ?_⟩
  refine hK28 _ ?_
  refine rgnX_take 3 (fun K29 hK29 => ?_)
  simp (disch := omega) only [go_sem, ex_k1, ex_k2, ex_k3, ex_k4, ex_p1, ex_p2, ex_p3, ex_p4, ex_r1, ex_r2, ex_r3, ex_c1, ex_c2, ex_s1, ex_s2, ex_i0, ex_i1, ex_i3, ex_im, eq_self]
  first | refine ⟨_, c_point_Y _ _ _ _ _, ?_⟩ | skip
  refine hK29 _ ?_
  refine rgnX_take 1 (fun K30 hK30 => ?_)
  simp (disch := omega) only [go_sem, ex_k1, ex_k2, ex_k3, ex_k4, ex_p1, ex_p2, ex_p3, ex_p4, ex_r1, ex_r2, ex_r3, ex_c1, ex_c2, ex_s1, ex_s2, ex_i0, ex_i1, ex_i3, ex_im, eq_self]
  first | refine ⟨_, ex_root_3_0_0, ?_⟩ | skip
  refine hK30 _ ?_
  refine rgnX_take 1 (fun K31 hK31 => ?_)
  simp (disch := omega) only [go_sem, ex_k1, ex_k2, ex_k3, ex_k4, ex_p1, ex_p2, ex_p3, ex_p4, ex_r1, ex_r2, ex_r3, ex_c1, ex_c2, ex_s1, ex_s2, ex_i0, ex_i1, ex_i3, ex_im, eq_self]
  first | refine ⟨_, c_swarfref03_Same _ _ _ _ _ _ (by omega), ?_⟩ | skip
  refine hK31 _ ?_
  refine rgnX_take 5 (fun K32 hK32 => ?_)
  simp (disch := omega) only [go_sem, ex_k1, ex_k2, ex_k3, ex_k4, ex_p1, ex_p2, ex_p3, ex_p4, ex_r1, ex_r2, ex_r3, ex_c1, ex_c2, ex_s1, ex_s2, ex_i0, ex_i1, ex_i3, ex_im, eq_self]
  first | refine ⟨_, c_point_Equal _ _ _ _ _ _ _ _ _ _ (by omega) (by decide +kernel) (by decide +kernel), ?_⟩ | skip
  refine hK32 _ ?_
  refine rgnX_take 5 (fun K33 hK33 => ?_)
  simp (disch := omega) only [go_sem, ex_k1, ex_k2, ex_k3, ex_k4, ex_p1, ex_p2, ex_p3, ex_p4, ex_r1, ex_r2, ex_r3, ex_c1, ex_c2, ex_s1, ex_s2, ex_i0, ex_i1, ex_i3, ex_im, eq_self]
  first | refine ⟨_, c_point_Compare _ _ _ _ _ _ _ _ _ _ (by omega) (by decide +kernel) (by decide +kernel), ?_⟩ | skip
  refine hK33 _ ?_
  refine rgnX_take 5 (fun K34 hK34 => ?_)
  simp (disch := omega) only [go_sem, ex_k1, ex_k2, ex_k3, ex_k4, ex_p1, ex_p2, ex_p3, ex_p4, ex_r1, ex_r2, ex_r3, ex_c1, ex_c2, ex_s1, ex_s2, ex_i0, ex_i1, ex_i3, ex_im, eq_self]
  first | refine ⟨_, c_swarfref07_Vec _ _ (by omega) (by omega) (by omega) (by omega), ?_⟩ | skip
  refine hK34 _ ?_
  refine rgnX_take 1 (fun K35 hK35 => ?_)
  simp (disch := omega) only [go_sem, ex_k1, ex_k2, ex_k3, ex_k4, ex_p1, ex_p2, ex_p3, ex_p4, ex_r1, ex_r2, ex_r3, ex_c1, ex_c2, ex_s1, ex_s2, ex_i0, ex_i1, ex_i3, ex_im, eq_self]
  first | refine ⟨_, c_point_Square _ _ _ _ _ _ _ (by omega), ?_⟩ | skip
  refine hK35 _ ?_
  refine rgnX_take 1 (fun K36 hK36 => ?_)
  simp (disch := omega) only [go_sem, ex_k1, ex_k2, ex_k3, ex_k4, ex_p1, ex_p2, ex_p3, ex_p4, ex_r1, ex_r2, ex_r3, ex_c1, ex_c2, ex_s1, ex_s2, ex_i0, ex_i1, ex_i3, ex_im, eq_self]
  first | refine ⟨_, ex_root_5_2_2, ?_⟩ | skip
  refine hK36 _ ?_
  refine rgnX_take 1 (fun K37 hK37 => ?_)
  simp (disch := omega) only [go_sem, ex_k1, ex_k2, ex_k3, ex_k4, ex_p1, ex_p2, ex_p3, ex_p4, ex_r1, ex_r2, ex_r3, ex_c1, ex_c2, ex_s1, ex_s2, ex_i0, ex_i1, ex_i3, ex_im, eq_self]
  first | refine ⟨_, c_swarfref03_Same _ _ _ _ _ _ (by omega), ?_⟩ | skip
  refine hK37 _ ?_
  simp (disch := omega) only [go_sem, ex_k1, ex_k2, ex_k3, ex_k4, ex_p1, ex_p2, ex_p3, ex_p4, ex_r1, ex_r2, ex_r3, ex_c1, ex_c2, ex_s1, ex_s2, ex_i0, ex_i1, ex_i3, ex_im, eq_self]
  refine hK25 _ ?_
  clear hK37 K37 hK36 K36 hK35 K35 hK34 K34 hK33 K33 hK32 K32 hK31 K31 hK30 K30 hK29 K29 hK28 K28 hK27 K27 hK26 K26 hK25 K25
  refine pwp_ret ?_
  refine ⟨Or.inr rfl, ?_⟩
  simp (disch := omega) only [go_sem, ex_k1, ex_k2, ex_k3, ex_k4, ex_p1, ex_p2, ex_p3, ex_p4, ex_r1, ex_r2, ex_r3, ex_c1, ex_c2, ex_s1, ex_s2, ex_i0, ex_i1, ex_i3, ex_im, eq_self]
  all_goals skip

end Go.Proofs.YtbadkjfjdkbgfaaGreat

set_option linter.unusedSimpArgs false
namespace Go.PL
open Go.ChangeShapes Go.WideShapes Go.RowKit

/-- All memory of a world. -/
def GW (w : World) : GMem := fun b o => w.cell? ⟨b, o, none⟩
theorem GW_agree (w : World) : Agree (GW w) w := fun _ _ _ h => h
/-- A slice's address has no spot. -/
def Spot (v : Value) : Prop := ∀ a len cap, v = .slice (some a) len cap → a.spot = none

section
variable {H : Type} {enc : TypeId × Value → H} {P : Program} {w : World} {base : Nat} {spare : Nat → Bool} {held : Bool} {fuel : Nat} {t : TypeId} {cs : List Value} {x : DataW H × List MemPlace}

theorem op_bool (ht : P.underlying t = some .bool) (h : DataW.trod enc P w base spare held fuel t cs = some x) : ∃ b, All2 (IRep (GW w)) cs [.bool b] := by
  obtain ⟨b, rfl, _⟩ := DataW.trod_bool ht h
  exact ⟨b, .cons (.bool b) .nil⟩
theorem op_int {k : IntKind} (ht : P.underlying t = some (.int k)) (h : DataW.trod enc P w base spare held fuel t cs = some x) : ∃ n, (Lit.int k n).wf = true ∧ All2 (IRep (GW w)) cs [.int k n] := by
  obtain ⟨n, rfl, _, hw⟩ := DataW.trod_int ht h
  exact ⟨n, hw, .cons (.int k n) .nil⟩
theorem wf_u32 {n : Int} (h : (Lit.int .u32 n).wf = true) : 0 ≤ n ∧ n < 4294967296 := by
  simp only [Lit.wf, Bool.and_eq_true, decide_eq_true_eq] at h
  obtain ⟨h1, h2⟩ := h
  have e1 : IntKind.u32.min = 0 := by decide
  have e2 : IntKind.u32.max = 4294967295 := by decide
  rw [e1] at h1; rw [e2] at h2
  exact ⟨h1, by omega⟩
theorem wf_i64 {n : Int} (h : (Lit.int .i64 n).wf = true) : -9223372036854775808 ≤ n ∧ n < 9223372036854775808 := by
  simp only [Lit.wf, Bool.and_eq_true, decide_eq_true_eq] at h
  obtain ⟨h1, h2⟩ := h
  have e1 : IntKind.i64.min = -9223372036854775808 := by decide
  have e2 : IntKind.i64.max = 9223372036854775807 := by decide
  rw [e1] at h1; rw [e2] at h2
  exact ⟨h1, by omega⟩
theorem wf_i16 {n : Int} (h : (Lit.int .i16 n).wf = true) : -32768 ≤ n ∧ n < 32768 := by
  simp only [Lit.wf, Bool.and_eq_true, decide_eq_true_eq] at h
  obtain ⟨h1, h2⟩ := h
  have e1 : IntKind.i16.min = -32768 := by decide
  have e2 : IntKind.i16.max = 32767 := by decide
  rw [e1] at h1; rw [e2] at h2
  exact ⟨h1, by omega⟩
theorem wf_u16 {n : Int} (h : (Lit.int .u16 n).wf = true) : 0 ≤ n ∧ n < 65536 := by
  simp only [Lit.wf, Bool.and_eq_true, decide_eq_true_eq] at h
  obtain ⟨h1, h2⟩ := h
  have e1 : IntKind.u16.min = 0 := by decide
  have e2 : IntKind.u16.max = 65535 := by decide
  rw [e1] at h1; rw [e2] at h2
  exact ⟨h1, by omega⟩
theorem wf_u8 {n : Int} (h : (Lit.int .u8 n).wf = true) : 0 ≤ n ∧ n < 256 := by
  simp only [Lit.wf, Bool.and_eq_true, decide_eq_true_eq] at h
  obtain ⟨h1, h2⟩ := h
  have e1 : IntKind.u8.min = 0 := by decide
  have e2 : IntKind.u8.max = 255 := by decide
  rw [e1] at h1; rw [e2] at h2
  exact ⟨h1, by omega⟩
theorem op_u32s {e : TypeId} (ht : P.underlying t = some (.slice e)) (he : P.underlying e = some (.int .u32)) (hc : P.cellsOf e = 1) (hs : ∀ v ∈ cs, Spot v)
    (h : DataW.trod enc P w base spare held fuel t cs = some x) : ∃ l : List Nat, All2 (IRep (GW w)) cs [lC l] := by
  rcases open_ints ht he hc h with ⟨rfl, _⟩ | ⟨a, len, cap, zs, rfl, _, hl, _, hz, _, hcell, hw⟩
  · exact ⟨[], .cons .nil .nil⟩
  · have hsp : a.spot = none := hs _ (by simp) a len cap rfl
    have hlen : len ≤ zs.length := by rw [hz]; split <;> omega
    obtain ⟨b, off, sp⟩ := a
    simp only at hsp
    subst hsp
    refine ⟨(zs.take len).map Int.toNat, .cons ?_ .nil⟩
    rw [lC_eq]
    have hll : ((zs.take len).map Int.toNat).length = len := by simp; omega
    rw [hll]
    have hadd : ∀ i, (⟨b, off, none⟩ : Addr).add i = ⟨b, off + i, none⟩ := fun i => by
      unfold Addr.add
      split
      · rename_i h0; rw [h0]; rfl
      · rfl
    have key : ∀ i, i < len → zs.getD i 0 = (((zs.getD i 0).toNat : Nat) : Int) := fun i hi => by
      have hm : zs.getD i 0 ∈ zs := by
        rw [List.getD_eq_getElem?_getD, List.getElem?_eq_getElem (show i < zs.length by omega)]
        exact List.getElem_mem _
      have := wf_u32 (hw _ hm)
      omega
    refine .sl b off len cap _ (fun i => .int .u32 (zs.getD i 0)) hl (fun i hi => ?_) (fun i hi => ?_)
    · simp only [u32s, List.length_map, List.length_take] at hi
      have := hcell i (by omega)
      rw [hadd] at this
      exact this
    · simp only [u32s, List.length_map, List.length_take] at hi
      have hg : (u32s ((zs.take len).map Int.toNat))[i]'(by simpa [u32s] using hi) = .int .u32 (zs.getD i 0) := by
        rw [key i (by omega)]
        simp [u32s, List.getD_eq_getElem?_getD, List.getElem?_eq_getElem (show i < zs.length by omega)]
      rw [hg]
      exact .int _ _
theorem op_piece {R : Value → PC → Prop} {off n m : Nat} {A B : List PC} (hm : off + n = m) (h1 : All2 R ((cs.drop off).take n) A) (h2 : All2 R (cs.drop m) B) : All2 R (cs.drop off) (A ++ B) := by
  have := h1.append h2
  rw [← hm, ← List.drop_drop, List.take_append_drop] at this
  exact this
theorem op_end {R : Value → PC → Prop} {n : Nat} (h : cs.length = n) : All2 R (cs.drop n) [] := by
  rw [← h, List.drop_length]; exact .nil
theorem sp_piece {off n : Nat} (h : ∀ v ∈ cs, Spot v) : ∀ v ∈ (cs.drop off).take n, Spot v := fun v hv => h v (List.mem_of_mem_drop (List.mem_of_mem_take hv))
/-- A field of a struct. -/
theorem op_field {fs : Array Field} (ht : P.underlying t = some (.struct fs)) (h : DataW.trod enc P w base spare held fuel t cs = some x) {i : Nat} {f : Field} (hi : fs[i]? = some f) {n : Nat} (hn : P.cellsOf f.type = n) :
    ∃ fuel' y, DataW.trod enc P w base spare held fuel' f.type ((cs.drop f.offset).take n) = some y := by
  obtain ⟨xs, m, _, _, _, hlen, hf⟩ := DataW.trod_struct ht h
  have hlt : i < xs.length := by
    rw [hlen]
    rcases Nat.lt_or_ge i fs.size with c | c
    · exact c
    · rw [Array.getElem?_eq_none c] at hi; cases hi
  have := hf i f hi
  rw [List.getElem?_eq_getElem hlt, hn] at this
  exact ⟨m, _, this⟩
theorem op_elem {e : TypeId} {k : Nat} (ht : P.underlying t = some (.array k e)) (h : DataW.trod enc P w base spare held fuel t cs = some x) {i : Nat} (hi : i < k) {n : Nat} (hn : P.cellsOf e = n) {off : Nat} (ho : i * n = off) :
    ∃ fuel' y, DataW.trod enc P w base spare held fuel' e ((cs.drop off).take n) = some y := by
  obtain ⟨xs, m, _, _, _, hlen, hf⟩ := DataW.trod_array ht h
  have := hf i hi
  rw [List.getElem?_eq_getElem (by omega), hn, ho] at this
  exact ⟨m, _, this⟩
theorem op_len {fs : Array Field} (ht : P.underlying t = some (.struct fs)) (h : DataW.trod enc P w base spare held fuel t cs = some x) {n : Nat} (hn : P.cellsOf t = n) : cs.length = n := by
  obtain ⟨xs, m, _, _, hl, _, _⟩ := DataW.trod_struct ht h
  rw [hl, hn]
theorem op_lenA {e : TypeId} {k : Nat} (ht : P.underlying t = some (.array k e)) (h : DataW.trod enc P w base spare held fuel t cs = some x) {n : Nat} (hn : P.cellsOf t = n) : cs.length = n := by
  obtain ⟨xs, m, _, _, hl, _, _⟩ := DataW.trod_array ht h
  rw [hl, hn]
end

theorem spot_cell {P : Program} {w : World} {r : Reach} {base : Nat} {t : TypeId} {v : Value} (h : Cell.okWide P w r base t v) : Spot v := by
  rintro a len cap rfl
  unfold Cell.okWide at h
  split at h
  all_goals first | (rename_i hv; cases hv; done) | (rename_i hv _; cases hv; done) | skip
  · unfold Cell.ok at h
    split at h <;> first | (rename_i hv; cases hv; done) | skip
    · rename_i hv
      simp only [Value.slice.injEq, Option.some.injEq] at hv
      obtain ⟨rfl, rfl, rfl⟩ := hv
      exact h.2.2.2.1
    · exact h.elim
theorem spot_agg {P : Program} {w : World} {r : Reach} {base : Nat} {t : TypeId} {fs : Array Field} (ht : P.underlying t = some (.struct fs)) {v : Value} (h : Value.okWide P w r base t v) : ∃ cs, v = .agg cs ∧ ∀ u ∈ cs.toList, Spot u := by
  unfold Value.okWide at h
  rw [ht] at h
  obtain ⟨cs, rfl, _, ts, _, _, hr⟩ := h
  refine ⟨cs, rfl, fun u hu => ?_⟩
  obtain ⟨i, hi⟩ := List.getElem?_of_mem hu
  obtain ⟨q, _, hq⟩ := hr i u (by rw [← Array.getElem?_toList]; exact hi)
  exact spot_cell hq
theorem spot_aggA {P : Program} {w : World} {r : Reach} {base : Nat} {t : TypeId} {e : TypeId} {k : Nat} (ht : P.underlying t = some (.array k e)) {v : Value} (h : Value.okWide P w r base t v) : ∃ cs, v = .agg cs ∧ ∀ u ∈ cs.toList, Spot u := by
  unfold Value.okWide at h
  rw [ht] at h
  obtain ⟨cs, rfl, _, ts, _, _, hr⟩ := h
  refine ⟨cs, rfl, fun u hu => ?_⟩
  obtain ⟨i, hi⟩ := List.getElem?_of_mem hu
  obtain ⟨q, _, hq⟩ := hr i u (by rw [← Array.getElem?_toList]; exact hi)
  exact spot_cell hq
/-- A struct's value stands for its cells. -/
theorem op_agg {G : GMem} {cs : Array Value} {ps : List PC} (h : All2 (IRep G) cs.toList ps) : RepE G (fun _ => 0) (fun _ => False) (.agg cs) (.a ps) := ⟨cs, rfl, h.mono fun _ _ => RepC.of_irep⟩
/-- What a law that returns true tells its row. -/
theorem law_true {P : Program} {f : FuncId} {args : List PE} (h : Ret P f args (.e (.c (.bool true)))) {w : World} {vs : Array Value} (hv : All2 (RepE (GW w) (fun _ => 0) (fun _ => False)) vs.toList args) :
    Calls P f vs w fun e w' => e = .returned (.bool true) ∧ Below w.heap.size w w' := by
  refine (h.2 (GW w) w vs (GW_agree w) hv).mono ?_
  rintro e w' ⟨v, G', rfl, hr, _, _, _, hb⟩
  have hr' : IRep G' v (.bool true) := hr
  cases hr'
  exact ⟨rfl, hb⟩
end Go.PL

set_option linter.unusedSimpArgs false
set_option linter.unusedVariables false
set_option maxRecDepth 20000
namespace Go.Proofs.YtbadkjfjdkbgfaaGreat
open Go Go.PL
open Go.ChangeShapes Go.WideShapes Go.RowKit
theorem op24 {H : Type} {enc : TypeId × Value → H} {w : World} {base : Nat} {spare : Nat → Bool} {held : Bool} {fuel : Nat} {cs : List Value} {x : DataW H × List MemPlace} (h : DataW.trod enc Tryz.prog w base spare held fuel 24 cs = some x) (hs : ∀ v ∈ cs, Spot v) :
    ∃ c0 : Bool, ∃ c1 : List Nat, All2 (IRep (GW w)) cs [.bool c0, lC c1] := by
  obtain ⟨f0, y0, h0⟩ := op_field Tryz.underlying24 h (i := 0) rfl (n := 1) (by kernel_rfl)
  obtain ⟨c0, r0⟩ := op_bool Tryz.underlying4 h0
  obtain ⟨f1, y1, h1⟩ := op_field Tryz.underlying24 h (i := 1) rfl (n := 1) (by kernel_rfl)
  obtain ⟨c1, r1⟩ := op_u32s Tryz.underlying22 Tryz.underlying142 (by kernel_rfl) (sp_piece hs) h1
  have r := op_piece (off := 0) rfl r0 (op_piece (off := 1) rfl r1 (op_end (op_len Tryz.underlying24 h (by kernel_rfl))))
  exact ⟨c0, c1, r⟩

theorem op26 {H : Type} {enc : TypeId × Value → H} {w : World} {base : Nat} {spare : Nat → Bool} {held : Bool} {fuel : Nat} {cs : List Value} {x : DataW H × List MemPlace} (h : DataW.trod enc Tryz.prog w base spare held fuel 26 cs = some x) (hs : ∀ v ∈ cs, Spot v) :
    ∃ c0 : Bool, ∃ c1 : List Nat, ∃ c2 : Bool, ∃ c3 : List Nat, All2 (IRep (GW w)) cs [.bool c0, lC c1, .bool c2, lC c3] := by
  obtain ⟨f0, y0, h0⟩ := op_field Tryz.underlying26 h (i := 0) rfl (n := 2) (by kernel_rfl)
  obtain ⟨c0, c1, r0⟩ := op24 h0 (sp_piece hs)
  obtain ⟨f1, y1, h1⟩ := op_field Tryz.underlying26 h (i := 1) rfl (n := 2) (by kernel_rfl)
  obtain ⟨c2, c3, r1⟩ := op24 h1 (sp_piece hs)
  have r := op_piece (off := 0) rfl r0 (op_piece (off := 2) rfl r1 (op_end (op_len Tryz.underlying26 h (by kernel_rfl))))
  exact ⟨c0, c1, c2, c3, r⟩

theorem op32 {H : Type} {enc : TypeId × Value → H} {w : World} {base : Nat} {spare : Nat → Bool} {held : Bool} {fuel : Nat} {cs : List Value} {x : DataW H × List MemPlace} (h : DataW.trod enc Tryz.prog w base spare held fuel 32 cs = some x) (hs : ∀ v ∈ cs, Spot v) :
    ∃ c0 : Bool, ∃ c1 : List Nat, ∃ c2 : Bool, ∃ c3 : List Nat, ∃ c4 : Bool, ∃ c5 : List Nat, ∃ c6 : Bool, ∃ c7 : List Nat, ∃ c8 : Bool, ∃ c9 : List Nat, ∃ c10 : Bool, ∃ c11 : List Nat, ∃ c12 : Bool, ∃ c13 : List Nat, ∃ c14 : Bool, ∃ c15 : List Nat, ∃ c16 : Bool, ∃ c17 : List Nat, ∃ c18 : Bool, ∃ c19 : List Nat, All2 (IRep (GW w)) cs [.bool c0, lC c1, .bool c2, lC c3, .bool c4, lC c5, .bool c6, lC c7, .bool c8, lC c9, .bool c10, lC c11, .bool c12, lC c13, .bool c14, lC c15, .bool c16, lC c17, .bool c18, lC c19] := by
  obtain ⟨f0, y0, h0⟩ := op_field Tryz.underlying32 h (i := 0) rfl (n := 4) (by kernel_rfl)
  obtain ⟨c0, c1, c2, c3, r0⟩ := op26 h0 (sp_piece hs)
  obtain ⟨f1, y1, h1⟩ := op_field Tryz.underlying32 h (i := 1) rfl (n := 4) (by kernel_rfl)
  obtain ⟨c4, c5, c6, c7, r1⟩ := op26 h1 (sp_piece hs)
  obtain ⟨f2, y2, h2⟩ := op_field Tryz.underlying32 h (i := 2) rfl (n := 4) (by kernel_rfl)
  obtain ⟨c8, c9, c10, c11, r2⟩ := op26 h2 (sp_piece hs)
  obtain ⟨f3, y3, h3⟩ := op_field Tryz.underlying32 h (i := 3) rfl (n := 4) (by kernel_rfl)
  obtain ⟨c12, c13, c14, c15, r3⟩ := op26 h3 (sp_piece hs)
  obtain ⟨f4, y4, h4⟩ := op_field Tryz.underlying32 h (i := 4) rfl (n := 4) (by kernel_rfl)
  obtain ⟨c16, c17, c18, c19, r4⟩ := op26 h4 (sp_piece hs)
  have r := op_piece (off := 0) rfl r0 (op_piece (off := 4) rfl r1 (op_piece (off := 8) rfl r2 (op_piece (off := 12) rfl r3 (op_piece (off := 16) rfl r4 (op_end (op_len Tryz.underlying32 h (by kernel_rfl)))))))
  exact ⟨c0, c1, c2, c3, c4, c5, c6, c7, c8, c9, c10, c11, c12, c13, c14, c15, c16, c17, c18, c19, r⟩

end Go.Proofs.YtbadkjfjdkbgfaaGreat

namespace Go.PL
open Go.RL
theorem vld3_c {b c : Rat} (h : vld3 b c = true) : (b = 0 ↔ c = 0) ∧ 0 ≤ c := by
  unfold vld3 at h
  split at h
  · simp only [Bool.and_eq_true, decide_eq_true_eq] at h
    rw [h.1, h.2]; exact ⟨by simp, Rat.le_refl⟩
  · rename_i hn
    simp only [not_or] at hn
    simp only [Bool.and_eq_true, decide_eq_true_eq] at h
    exact ⟨⟨fun q => absurd q hn.1, fun q => absurd q hn.2⟩, Rat.le_of_lt h.1⟩
theorem make_X {b c b' c' : Rat} (h : vld3 b c = true) : rC b (pC b b' (rK b c c')) = c := by
  by_cases hb : b = 0
  · rw [rC_0 hb, ((vld3_c h).1.1 hb)]
  · rw [rC_1 hb, pC_1 hb, rK_1 hb]
theorem make_Y {b c b' c' : Rat} (h : vld3 b c = true) (h' : vld3 b' c' = true) (hm : b = 0 ∨ b' = 0 ∨ c = c') : rC b' (pC b b' (rK b c c')) = c' := by
  by_cases hb' : b' = 0
  · rw [rC_0 hb', ((vld3_c h').1.1 hb')]
  · rw [rC_1 hb', pC_2 hb']
    by_cases hb : b = 0
    · rw [rK_0 hb]
    · rw [rK_1 hb]; rcases hm with hm | hm | hm
      · contradiction
      · contradiction
      · exact hm
end Go.PL

namespace Go.PL
open Go.RL
/-- The cells of a point. -/
structure PtC (X : List PC) : Prop where
  len : X.length = 20
  im : X.all PC.im = true
  nm : X.map PC.norm = X
theorem PtC.tk {X : List PC} (h : PtC X) : X.take 20 = X := List.take_of_length_le (by rw [h.len]; omega)
theorem PtC.ne {X : List PC} (h : PtC X) : (X = []) = False := eq_false fun q => by have := h.len; rw [q] at this; cases this
theorem idx_p1 {X : List PC} (h : PtC X) {sz bs ag zz e k} : indexA ⟨sz, bs, ag, zz, .slice e⟩ 20 (some (.c (.sl 1 X))) (some (.c (.int k ((0 : Nat) : Int)))) = some (.iptr X) := by
  show (if (0 : Int) ≤ ((0 : Nat) : Int) ∧ ((0 : Nat) : Int) < ((1 : Nat) : Int) then some (PC.iptr ((X.drop (((0 : Nat) : Int).toNat * 20)).take 20)) else none) = _
  rw [if_pos (by omega)]
  show some (PC.iptr (X.take 20)) = _
  rw [h.tk]
theorem idx_p20 {X Y : List PC} (h : PtC X) {sz bs ag zz e k} : indexA ⟨sz, bs, ag, zz, .slice e⟩ 20 (some (.c (.sl 2 (X ++ Y)))) (some (.c (.int k ((0 : Nat) : Int)))) = some (.iptr X) := by
  show (if (0 : Int) ≤ ((0 : Nat) : Int) ∧ ((0 : Nat) : Int) < ((2 : Nat) : Int) then some (PC.iptr (((X ++ Y).drop (((0 : Nat) : Int).toNat * 20)).take 20)) else none) = _
  rw [if_pos (by omega)]
  show some (PC.iptr ((X ++ Y).take 20)) = _
  rw [List.take_append_of_le_length (by rw [h.len]; omega), h.tk]
theorem idx_p21 {X Y : List PC} (h : PtC X) (h' : PtC Y) {sz bs ag zz e k} : indexA ⟨sz, bs, ag, zz, .slice e⟩ 20 (some (.c (.sl 2 (X ++ Y)))) (some (.c (.int k ((1 : Nat) : Int)))) = some (.iptr Y) := by
  show (if (0 : Int) ≤ ((1 : Nat) : Int) ∧ ((1 : Nat) : Int) < ((2 : Nat) : Int) then some (PC.iptr (((X ++ Y).drop (((1 : Nat) : Int).toNat * 20)).take 20)) else none) = _
  rw [if_pos (by omega)]
  show some (PC.iptr (((X ++ Y).drop 20).take 20)) = _
  rw [show (X ++ Y).drop 20 = Y by rw [← h.len, List.drop_left], h'.tk]
theorem PtC.rat (a b d e c : Rat) : PtC (ratC a ++ (ratC b ++ (ratC d ++ (ratC e ++ ratC c)))) := ⟨by simp, by simp, by simp [List.map_append]⟩
theorem PtC.raw (n0 n1 n2 n3 n4 n5 n6 n7 n8 n9 : Bool) (l0 l1 l2 l3 l4 l5 l6 l7 l8 l9 : List Nat) : PtC [.bool n0, lC l0, .bool n1, lC l1, .bool n2, lC l2, .bool n3, lC l3, .bool n4, lC l4, .bool n5, lC l5, .bool n6, lC l6, .bool n7, lC l7, .bool n8, lC l8, .bool n9, lC l9] :=
  ⟨rfl, rfl, rfl⟩
theorem szr_i64 {n : Int} (h : -9223372036854775808 ≤ n) (h' : n < 9223372036854775808) : SzR ((n : Int) : Rat) 3 := by
  refine ⟨?_, ?_⟩
  · rw [Rat.num_intCast]; exact szi_lit (Nat.lt_trans (show n.natAbs < 9223372036854775809 by omega) (by decide))
  · rw [Rat.den_intCast]; exact szi_lit (by decide)
theorem vldP_nn {b e c : Rat} (h : vldP b e c = true) : 0 ≤ c := by
  unfold vldP at h
  split at h
  · simp only [decide_eq_true_eq] at h; rw [h]; exact Rat.le_refl
  · simp only [Bool.and_eq_true, decide_eq_true_eq] at h; exact Rat.le_of_lt h.1
theorem vldP_iff {b e c : Rat} (h : vldP b e c = true) : (b = 0 ∧ e = 0) ↔ c = 0 := by
  unfold vldP at h
  split at h
  · rename_i q; simp only [decide_eq_true_eq] at h; exact ⟨fun _ => h, fun _ => q⟩
  · rename_i q
    simp only [Bool.and_eq_true, decide_eq_true_eq] at h
    exact ⟨fun p => absurd p q, fun p => absurd h.1 (by rw [p]; exact Rat.lt_irrefl)⟩
/-- The order's laws. -/
theorem cmpR_swap {a b c a' b' c' : Rat} (hc : 0 ≤ c) (hc' : 0 ≤ c') : cmpR a' b' c' a b c = -cmpR a b c a' b' c' := by
  rw [cmpR_eq hc' hc, cmpR_eq hc hc', ← sgn_neg]
  congr 1
  apply Re.ext; intro n
  simp only [Re.sub_s, Re.neg_s]
  grind
theorem cmpP_swap {a b d e c a' b' d' e' c' : Rat} (hc : 0 ≤ c) (hc' : 0 ≤ c') : cmpP a' b' d' e' c' a b d e c = -cmpP a b d e c a' b' d' e' c' := by
  have hx := cmpR_swap (a := a) (b := b) (a' := a') (b' := b') (rC_nn (b := b) hc) (rC_nn (b := b') hc')
  have hy := cmpR_swap (a := d) (b := e) (a' := d') (b' := e') (rC_nn (b := e) hc) (rC_nn (b := e') hc')
  by_cases h : cmpR a b (rC b c) a' b' (rC b' c') = 0
  · rw [cmpP_0 h, cmpP_0 (by rw [hx, h]; rfl), hy]
  · rw [cmpP_1 h, cmpP_1 (by rw [hx]; omega), hx]
theorem sgn_sub_self (x : Re) : sgn (x - x) = 0 := sgn_zero.2 (eqv_refl x)
theorem cmpR_self {a b c : Rat} (hc : 0 ≤ c) : cmpR a b c a b c = 0 := by rw [cmpR_eq hc hc, sgn_sub_self]
theorem cmpP_self {a b d e c : Rat} (hc : 0 ≤ c) : cmpP a b d e c a b d e c = 0 := by rw [cmpP_0 (cmpR_self (rC_nn hc)), cmpR_self (rC_nn hc)]
theorem cmpR_bd (a b c a' b' c' : Rat) (hc : 0 ≤ c) (hc' : 0 ≤ c') : -1 ≤ cmpR a b c a' b' c' ∧ cmpR a b c a' b' c' ≤ 1 := by
  rw [cmpR_eq hc hc']
  rcases sgn_cases (v2 a b c - v2 a' b' c') with ⟨_, h⟩ | ⟨_, h⟩ | ⟨_, h⟩ <;> omega
theorem cmpP_bd {a b d e c a' b' d' e' c' : Rat} (hc : 0 ≤ c) (hc' : 0 ≤ c') : -1 ≤ cmpP a b d e c a' b' d' e' c' ∧ cmpP a b d e c a' b' d' e' c' ≤ 1 := by
  unfold cmpP
  split
  · exact cmpR_bd _ _ _ _ _ _ (rC_nn hc) (rC_nn hc')
  · exact cmpR_bd _ _ _ _ _ _ (rC_nn hc) (rC_nn hc')
end Go.PL

namespace Go.PL
open Go.RL
section
variable {n0 n1 n2 n3 n4 n5 n6 n7 n8 n9 : Bool} {l0 l1 l2 l3 l4 l5 l6 l7 l8 l9 : List Nat} {a b c d e : Rat} {sz bs : Nat} {ag : Bool} {zz : Option (List PC)} {t : TypeId} {k : IntKind}
theorem idx_r0 : indexA ⟨sz, bs, ag, zz, .slice t⟩ 4 (some (.c (.sl 5 [.bool n0, lC l0, .bool n1, lC l1, .bool n2, lC l2, .bool n3, lC l3, .bool n4, lC l4, .bool n5, lC l5, .bool n6, lC l6, .bool n7, lC l7, .bool n8, lC l8, .bool n9, lC l9]))) (some (.c (.int k ((0 : Nat) : Int)))) = some (.iptr [.bool n0, lC l0, .bool n1, lC l1]) := rfl
theorem idx_r1 : indexA ⟨sz, bs, ag, zz, .slice t⟩ 4 (some (.c (.sl 5 [.bool n0, lC l0, .bool n1, lC l1, .bool n2, lC l2, .bool n3, lC l3, .bool n4, lC l4, .bool n5, lC l5, .bool n6, lC l6, .bool n7, lC l7, .bool n8, lC l8, .bool n9, lC l9]))) (some (.c (.int k ((1 : Nat) : Int)))) = some (.iptr [.bool n2, lC l2, .bool n3, lC l3]) := rfl
theorem idx_r2 : indexA ⟨sz, bs, ag, zz, .slice t⟩ 4 (some (.c (.sl 5 [.bool n0, lC l0, .bool n1, lC l1, .bool n2, lC l2, .bool n3, lC l3, .bool n4, lC l4, .bool n5, lC l5, .bool n6, lC l6, .bool n7, lC l7, .bool n8, lC l8, .bool n9, lC l9]))) (some (.c (.int k ((2 : Nat) : Int)))) = some (.iptr [.bool n4, lC l4, .bool n5, lC l5]) := rfl
theorem idx_r3 : indexA ⟨sz, bs, ag, zz, .slice t⟩ 4 (some (.c (.sl 5 [.bool n0, lC l0, .bool n1, lC l1, .bool n2, lC l2, .bool n3, lC l3, .bool n4, lC l4, .bool n5, lC l5, .bool n6, lC l6, .bool n7, lC l7, .bool n8, lC l8, .bool n9, lC l9]))) (some (.c (.int k ((3 : Nat) : Int)))) = some (.iptr [.bool n6, lC l6, .bool n7, lC l7]) := rfl
theorem idx_r4 : indexA ⟨sz, bs, ag, zz, .slice t⟩ 4 (some (.c (.sl 5 [.bool n0, lC l0, .bool n1, lC l1, .bool n2, lC l2, .bool n3, lC l3, .bool n4, lC l4, .bool n5, lC l5, .bool n6, lC l6, .bool n7, lC l7, .bool n8, lC l8, .bool n9, lC l9]))) (some (.c (.int k ((4 : Nat) : Int)))) = some (.iptr [.bool n8, lC l8, .bool n9, lC l9]) := rfl
theorem idx_q0 : indexA ⟨sz, bs, ag, zz, .slice t⟩ 4 (some (.c (.sl 5 (ratC a ++ (ratC b ++ (ratC d ++ (ratC e ++ ratC c))))))) (some (.c (.int k ((0 : Nat) : Int)))) = some (.iptr (ratC a)) := rfl
theorem idx_q1 : indexA ⟨sz, bs, ag, zz, .slice t⟩ 4 (some (.c (.sl 5 (ratC a ++ (ratC b ++ (ratC d ++ (ratC e ++ ratC c))))))) (some (.c (.int k ((1 : Nat) : Int)))) = some (.iptr (ratC b)) := rfl
theorem idx_q2 : indexA ⟨sz, bs, ag, zz, .slice t⟩ 4 (some (.c (.sl 5 (ratC a ++ (ratC b ++ (ratC d ++ (ratC e ++ ratC c))))))) (some (.c (.int k ((2 : Nat) : Int)))) = some (.iptr (ratC d)) := rfl
theorem idx_q3 : indexA ⟨sz, bs, ag, zz, .slice t⟩ 4 (some (.c (.sl 5 (ratC a ++ (ratC b ++ (ratC d ++ (ratC e ++ ratC c))))))) (some (.c (.int k ((3 : Nat) : Int)))) = some (.iptr (ratC e)) := rfl
theorem idx_q4 : indexA ⟨sz, bs, ag, zz, .slice t⟩ 4 (some (.c (.sl 5 (ratC a ++ (ratC b ++ (ratC d ++ (ratC e ++ ratC c))))))) (some (.c (.int k ((4 : Nat) : Int)))) = some (.iptr (ratC c)) := rfl
end
/-- A property of the five parts. -/
def five_at (p0 p1 p2 p3 p4 : Prop) : Nat → Prop
  | 0 => p0
  | 1 => p1
  | 2 => p2
  | 3 => p3
  | _ => p4
theorem five_step {p : Nat → Prop} {u : Nat} (h : ∀ i, i < u → p i) (hu : p u) : ∀ i, i < u + 1 → p i := fun i hi => by
  rcases Nat.lt_or_eq_of_le (show i ≤ u by omega) with q | q
  · exact h i q
  · rw [q]; exact hu
theorem five_all {p0 p1 p2 p3 p4 : Prop} (h : ∀ i, i < 5 → five_at p0 p1 p2 p3 p4 i) : p0 ∧ p1 ∧ p2 ∧ p3 ∧ p4 := ⟨h 0 (by omega), h 1 (by omega), h 2 (by omega), h 3 (by omega), h 4 (by omega)⟩
theorem ten_cases {u : Nat} (h : u < 5) (b0 b1 b2 b3 b4 : Bool) : ((u = 0 ∧ b0 = true) ∨ (u = 0 ∧ b0 = false)) ∨ ((u = 1 ∧ b1 = true) ∨ (u = 1 ∧ b1 = false)) ∨ ((u = 2 ∧ b2 = true) ∨ (u = 2 ∧ b2 = false)) ∨ ((u = 3 ∧ b3 = true) ∨ (u = 3 ∧ b3 = false)) ∨ ((u = 4 ∧ b4 = true) ∨ (u = 4 ∧ b4 = false)) := by
  have two : ∀ b : Bool, b = true ∨ b = false := fun b => by cases b <;> simp
  have : u = 0 ∨ u = 1 ∨ u = 2 ∨ u = 3 ∨ u = 4 := by omega
  rcases this with q | q | q | q | q
  · exact .inl ((two b0).imp (⟨q, ·⟩) (⟨q, ·⟩))
  · exact .inr (.inl ((two b1).imp (⟨q, ·⟩) (⟨q, ·⟩)))
  · exact .inr (.inr (.inl ((two b2).imp (⟨q, ·⟩) (⟨q, ·⟩))))
  · exact .inr (.inr (.inr (.inl ((two b3).imp (⟨q, ·⟩) (⟨q, ·⟩)))))
  · exact .inr (.inr (.inr (.inr ((two b4).imp (⟨q, ·⟩) (⟨q, ·⟩)))))
theorem five_cases {u : Nat} (h : u < 5) : u = 0 ∨ u = 1 ∨ u = 2 ∨ u = 3 ∨ u = 4 := by omega
theorem fifteen {u : Nat} (h : u < 5) (m0 m1 m2 m3 m4 m5 m6 m7 m8 m9 : Nat) :
    ((u = 0 ∧ 3 < m0) ∨ (u = 0 ∧ ¬ 3 < m0 ∧ 3 < m1) ∨ (u = 0 ∧ ¬ 3 < m0 ∧ ¬ 3 < m1)) ∨ ((u = 1 ∧ 3 < m2) ∨ (u = 1 ∧ ¬ 3 < m2 ∧ 3 < m3) ∨ (u = 1 ∧ ¬ 3 < m2 ∧ ¬ 3 < m3)) ∨ ((u = 2 ∧ 3 < m4) ∨ (u = 2 ∧ ¬ 3 < m4 ∧ 3 < m5) ∨ (u = 2 ∧ ¬ 3 < m4 ∧ ¬ 3 < m5)) ∨
    ((u = 3 ∧ 3 < m6) ∨ (u = 3 ∧ ¬ 3 < m6 ∧ 3 < m7) ∨ (u = 3 ∧ ¬ 3 < m6 ∧ ¬ 3 < m7)) ∨ ((u = 4 ∧ 3 < m8) ∨ (u = 4 ∧ ¬ 3 < m8 ∧ 3 < m9) ∨ (u = 4 ∧ ¬ 3 < m8 ∧ ¬ 3 < m9)) := by
  have tri : ∀ x y : Nat, 3 < x ∨ (¬ 3 < x ∧ 3 < y) ∨ (¬ 3 < x ∧ ¬ 3 < y) := fun x y => by omega
  have this : u = 0 ∨ u = 1 ∨ u = 2 ∨ u = 3 ∨ u = 4 := by omega
  rcases this with q | q | q | q | q
  · exact .inl ((tri m0 m1).imp (⟨q, ·⟩) (·.imp (⟨q, ·⟩) (⟨q, ·⟩)))
  · exact .inr (.inl ((tri m2 m3).imp (⟨q, ·⟩) (·.imp (⟨q, ·⟩) (⟨q, ·⟩))))
  · exact .inr (.inr (.inl ((tri m4 m5).imp (⟨q, ·⟩) (·.imp (⟨q, ·⟩) (⟨q, ·⟩)))))
  · exact .inr (.inr (.inr (.inl ((tri m6 m7).imp (⟨q, ·⟩) (·.imp (⟨q, ·⟩) (⟨q, ·⟩))))))
  · exact .inr (.inr (.inr (.inr ((tri m8 m9).imp (⟨q, ·⟩) (·.imp (⟨q, ·⟩) (⟨q, ·⟩))))))
end Go.PL

set_option linter.unusedSimpArgs false
set_option linter.unusedVariables false
set_option maxRecDepth 20000
namespace Go.Proofs.YtbadkjfjdkbgfaaGreat
open Go Go.PL Go.RL
end Go.Proofs.YtbadkjfjdkbgfaaGreat

set_option linter.unusedSimpArgs false
set_option linter.unusedVariables false
set_option maxRecDepth 20000
namespace Go.Proofs.YtbadkjfjdkbgfaaGreat
open Go Go.PL Go.RL
set_option maxHeartbeats 4000000 in
theorem c_swarfref07_Valid_f (n0 n1 n2 n3 n4 n5 n6 n7 n8 n9 : Bool) (l0 l1 l2 l3 l4 l5 l6 l7 l8 l9 : List Nat) (hl0 : l0.length ≤ 1000000) (hl1 : l1.length ≤ 1000000) (hl2 : l2.length ≤ 1000000) (hl3 : l3.length ≤ 1000000) (hl4 : l4.length ≤ 1000000) (hl5 : l5.length ≤ 1000000) (hl6 : l6.length ≤ 1000000) (hl7 : l7.length ≤ 1000000) (hl8 : l8.length ≤ 1000000) (hl9 : l9.length ≤ 1000000) (hs : ¬ (vldR n0 l0 n1 l1 = true ∧ vldR n4 l4 n5 l5 = true ∧ vldR n2 l2 n3 l3 = true ∧ vldR n6 l6 n7 l7 = true ∧ vldR n8 l8 n9 l9 = true)) :
    Ret Tryz.prog 41 [.a [.bool n0, lC l0, .bool n1, lC l1, .bool n2, lC l2, .bool n3, lC l3, .bool n4, lC l4, .bool n5, lC l5, .bool n6, lC l6, .bool n7, lC l7, .bool n8, lC l8, .bool n9, lC l9]] (.e (.c (.bool false))) := by
  refine ret_of_body (md := {}) Tryz.func41 (by kernel_rfl) rfl ?_
  simp only [Tryz.f41, List.map_cons, List.map_nil, List.length_cons, List.length_nil, Nat.zero_add, Nat.reduceAdd, Nat.reduceSub, List.reduceReplicate, List.cons_append, List.nil_append]
  refine pwx_sr 1 [] (by rfl) (fun K1 hK1 => ?_)
  simp (disch := omega) only [go_sem]
  refine hK1 _ ?_
  clear hK1 K1
  refine pwp_seq ?_
  rcases five_f hs with h1 | ⟨h1, h2⟩ | ⟨h1, h2, h3⟩ | ⟨h1, h2, h3, h4⟩ | ⟨h1, h2, h3, h4, h5⟩
  · refine pwx_sr 0 [some 5, some 6, some 7, some 8, some 9, some 10, some 11, some 12, some 13, some 14, some 15, some 16, some 17, some 18, some 19, some 20, some 21, some 22, some 23, some 24, some 25, some 26, some 27, some 28, some 29, some 30, some 31, some 32] (by rfl) (fun K2 hK2 => ?_)
    refine rgnX_take 3 (fun K3 hK3 => ?_)
    simp (disch := omega) only [go_sem, h1]
    refine ⟨_, c_swarfref02_Valid _ _ _ _ (by omega) (by omega), ?_⟩
    refine hK3 _ ?_
    refine rgnX_take 5 (fun K4 hK4 => ?_)
    simp (disch := omega) only [go_sem, h1]
    first | refine ⟨_, c_swarfref02_Valid _ _ _ _ (by omega) (by omega), ?_⟩ | skip
    refine hK4 _ ?_
    refine rgnX_take 6 (fun K5 hK5 => ?_)
    simp (disch := omega) only [go_sem, h1]
    first | refine ⟨_, c_swarfref02_Valid _ _ _ _ (by omega) (by omega), ?_⟩ | skip
    refine hK5 _ ?_
    refine rgnX_take 6 (fun K6 hK6 => ?_)
    simp (disch := omega) only [go_sem, h1]
    first | refine ⟨_, c_swarfref02_Valid _ _ _ _ (by omega) (by omega), ?_⟩ | skip
    refine hK6 _ ?_
    refine rgnX_take 6 (fun K7 hK7 => ?_)
    simp (disch := omega) only [go_sem, h1]
    first | refine ⟨_, c_swarfref02_Valid _ _ _ _ (by omega) (by omega), ?_⟩ | skip
    refine hK7 _ ?_
    simp (disch := omega) only [go_sem, h1]
    refine hK2 _ ?_
    clear hK7 K7 hK6 K6 hK5 K5 hK4 K4 hK3 K3 hK2 K2
    refine pwp_cond (b := true) (by rfl) (fun _ => ?_) (fun h => nomatch h)
    refine pwx_sr 0 [] (by rfl) (fun K8 hK8 => ?_)
    simp (disch := omega) only [go_sem]
    refine hK8 _ ?_
    clear hK8 K8
    refine pwp_ret ?_
    refine r_then ?_
    refine ⟨Or.inr rfl, ?_⟩
    simp (disch := omega) only [go_sem]
  · refine pwx_sr 0 [some 5, some 6, some 7, some 8, some 9, some 10, some 11, some 12, some 13, some 14, some 15, some 16, some 17, some 18, some 19, some 20, some 21, some 22, some 23, some 24, some 25, some 26, some 27, some 28, some 29, some 30, some 31, some 32] (by rfl) (fun K9 hK9 => ?_)
    refine rgnX_take 3 (fun K10 hK10 => ?_)
    simp (disch := omega) only [go_sem, h1, h2]
    refine ⟨_, c_swarfref02_Valid _ _ _ _ (by omega) (by omega), ?_⟩
    refine hK10 _ ?_
    refine rgnX_take 5 (fun K11 hK11 => ?_)
    simp (disch := omega) only [go_sem, h1, h2]
    first | refine ⟨_, c_swarfref02_Valid _ _ _ _ (by omega) (by omega), ?_⟩ | skip
    refine hK11 _ ?_
    refine rgnX_take 6 (fun K12 hK12 => ?_)
    simp (disch := omega) only [go_sem, h1, h2]
    first | refine ⟨_, c_swarfref02_Valid _ _ _ _ (by omega) (by omega), ?_⟩ | skip
    refine hK12 _ ?_
    refine rgnX_take 6 (fun K13 hK13 => ?_)
    simp (disch := omega) only [go_sem, h1, h2]
    first | refine ⟨_, c_swarfref02_Valid _ _ _ _ (by omega) (by omega), ?_⟩ | skip
    refine hK13 _ ?_
    refine rgnX_take 6 (fun K14 hK14 => ?_)
    simp (disch := omega) only [go_sem, h1, h2]
    first | refine ⟨_, c_swarfref02_Valid _ _ _ _ (by omega) (by omega), ?_⟩ | skip
    refine hK14 _ ?_
    simp (disch := omega) only [go_sem, h1, h2]
    refine hK9 _ ?_
    clear hK14 K14 hK13 K13 hK12 K12 hK11 K11 hK10 K10 hK9 K9
    refine pwp_cond (b := true) (by rfl) (fun _ => ?_) (fun h => nomatch h)
    refine pwx_sr 0 [] (by rfl) (fun K15 hK15 => ?_)
    simp (disch := omega) only [go_sem]
    refine hK15 _ ?_
    clear hK15 K15
    refine pwp_ret ?_
    refine r_then ?_
    refine ⟨Or.inr rfl, ?_⟩
    simp (disch := omega) only [go_sem]
  · refine pwx_sr 0 [some 5, some 6, some 7, some 8, some 9, some 10, some 11, some 12, some 13, some 14, some 15, some 16, some 17, some 18, some 19, some 20, some 21, some 22, some 23, some 24, some 25, some 26, some 27, some 28, some 29, some 30, some 31, some 32] (by rfl) (fun K16 hK16 => ?_)
    refine rgnX_take 3 (fun K17 hK17 => ?_)
    simp (disch := omega) only [go_sem, h1, h2, h3]
    refine ⟨_, c_swarfref02_Valid _ _ _ _ (by omega) (by omega), ?_⟩
    refine hK17 _ ?_
    refine rgnX_take 5 (fun K18 hK18 => ?_)
    simp (disch := omega) only [go_sem, h1, h2, h3]
    first | refine ⟨_, c_swarfref02_Valid _ _ _ _ (by omega) (by omega), ?_⟩ | skip
    refine hK18 _ ?_
    refine rgnX_take 6 (fun K19 hK19 => ?_)
    simp (disch := omega) only [go_sem, h1, h2, h3]
    first | refine ⟨_, c_swarfref02_Valid _ _ _ _ (by omega) (by omega), ?_⟩ | skip
    refine hK19 _ ?_
    refine rgnX_take 6 (fun K20 hK20 => ?_)
    simp (disch := omega) only [go_sem, h1, h2, h3]
    first | refine ⟨_, c_swarfref02_Valid _ _ _ _ (by omega) (by omega), ?_⟩ | skip
    refine hK20 _ ?_
    refine rgnX_take 6 (fun K21 hK21 => ?_)
    simp (disch := omega) only [go_sem, h1, h2, h3]
    first | refine ⟨_, c_swarfref02_Valid _ _ _ _ (by omega) (by omega), ?_⟩ | skip
    refine hK21 _ ?_
    simp (disch := omega) only [go_sem, h1, h2, h3]
    refine hK16 _ ?_
    clear hK21 K21 hK20 K20 hK19 K19 hK18 K18 hK17 K17 hK16 K16
    refine pwp_cond (b := true) (by rfl) (fun _ => ?_) (fun h => nomatch h)
    refine pwx_sr 0 [] (by rfl) (fun K22 hK22 => ?_)
    simp (disch := omega) only [go_sem]
    refine hK22 _ ?_
    clear hK22 K22
    refine pwp_ret ?_
    refine r_then ?_
    refine ⟨Or.inr rfl, ?_⟩
    simp (disch := omega) only [go_sem]
  · refine pwx_sr 0 [some 5, some 6, some 7, some 8, some 9, some 10, some 11, some 12, some 13, some 14, some 15, some 16, some 17, some 18, some 19, some 20, some 21, some 22, some 23, some 24, some 25, some 26, some 27, some 28, some 29, some 30, some 31, some 32] (by rfl) (fun K23 hK23 => ?_)
    refine rgnX_take 3 (fun K24 hK24 => ?_)
    simp (disch := omega) only [go_sem, h1, h2, h3, h4]
    refine ⟨_, c_swarfref02_Valid _ _ _ _ (by omega) (by omega), ?_⟩
    refine hK24 _ ?_
    refine rgnX_take 5 (fun K25 hK25 => ?_)
    simp (disch := omega) only [go_sem, h1, h2, h3, h4]
    first | refine ⟨_, c_swarfref02_Valid _ _ _ _ (by omega) (by omega), ?_⟩ | skip
    refine hK25 _ ?_
    refine rgnX_take 6 (fun K26 hK26 => ?_)
    simp (disch := omega) only [go_sem, h1, h2, h3, h4]
    first | refine ⟨_, c_swarfref02_Valid _ _ _ _ (by omega) (by omega), ?_⟩ | skip
    refine hK26 _ ?_
    refine rgnX_take 6 (fun K27 hK27 => ?_)
    simp (disch := omega) only [go_sem, h1, h2, h3, h4]
    first | refine ⟨_, c_swarfref02_Valid _ _ _ _ (by omega) (by omega), ?_⟩ | skip
    refine hK27 _ ?_
    refine rgnX_take 6 (fun K28 hK28 => ?_)
    simp (disch := omega) only [go_sem, h1, h2, h3, h4]
    first | refine ⟨_, c_swarfref02_Valid _ _ _ _ (by omega) (by omega), ?_⟩ | skip
    refine hK28 _ ?_
    simp (disch := omega) only [go_sem, h1, h2, h3, h4]
    refine hK23 _ ?_
    clear hK28 K28 hK27 K27 hK26 K26 hK25 K25 hK24 K24 hK23 K23
    refine pwp_cond (b := true) (by rfl) (fun _ => ?_) (fun h => nomatch h)
    refine pwx_sr 0 [] (by rfl) (fun K29 hK29 => ?_)
    simp (disch := omega) only [go_sem]
    refine hK29 _ ?_
    clear hK29 K29
    refine pwp_ret ?_
    refine r_then ?_
    refine ⟨Or.inr rfl, ?_⟩
    simp (disch := omega) only [go_sem]
  · refine pwx_sr 0 [some 5, some 6, some 7, some 8, some 9, some 10, some 11, some 12, some 13, some 14, some 15, some 16, some 17, some 18, some 19, some 20, some 21, some 22, some 23, some 24, some 25, some 26, some 27, some 28, some 29, some 30, some 31, some 32] (by rfl) (fun K30 hK30 => ?_)
    refine rgnX_take 3 (fun K31 hK31 => ?_)
    simp (disch := omega) only [go_sem, h1, h2, h3, h4, h5]
    refine ⟨_, c_swarfref02_Valid _ _ _ _ (by omega) (by omega), ?_⟩
    refine hK31 _ ?_
    refine rgnX_take 5 (fun K32 hK32 => ?_)
    simp (disch := omega) only [go_sem, h1, h2, h3, h4, h5]
    first | refine ⟨_, c_swarfref02_Valid _ _ _ _ (by omega) (by omega), ?_⟩ | skip
    refine hK32 _ ?_
    refine rgnX_take 6 (fun K33 hK33 => ?_)
    simp (disch := omega) only [go_sem, h1, h2, h3, h4, h5]
    first | refine ⟨_, c_swarfref02_Valid _ _ _ _ (by omega) (by omega), ?_⟩ | skip
    refine hK33 _ ?_
    refine rgnX_take 6 (fun K34 hK34 => ?_)
    simp (disch := omega) only [go_sem, h1, h2, h3, h4, h5]
    first | refine ⟨_, c_swarfref02_Valid _ _ _ _ (by omega) (by omega), ?_⟩ | skip
    refine hK34 _ ?_
    refine rgnX_take 6 (fun K35 hK35 => ?_)
    simp (disch := omega) only [go_sem, h1, h2, h3, h4, h5]
    first | refine ⟨_, c_swarfref02_Valid _ _ _ _ (by omega) (by omega), ?_⟩ | skip
    refine hK35 _ ?_
    simp (disch := omega) only [go_sem, h1, h2, h3, h4, h5]
    refine hK30 _ ?_
    clear hK35 K35 hK34 K34 hK33 K33 hK32 K32 hK31 K31 hK30 K30
    refine pwp_cond (b := true) (by rfl) (fun _ => ?_) (fun h => nomatch h)
    refine pwx_sr 0 [] (by rfl) (fun K36 hK36 => ?_)
    simp (disch := omega) only [go_sem]
    refine hK36 _ ?_
    clear hK36 K36
    refine pwp_ret ?_
    refine r_then ?_
    refine ⟨Or.inr rfl, ?_⟩
    simp (disch := omega) only [go_sem]
set_option maxHeartbeats 4000000 in
theorem c_point_Valid_f (n0 n1 n2 n3 n4 n5 n6 n7 n8 n9 : Bool) (l0 l1 l2 l3 l4 l5 l6 l7 l8 l9 : List Nat) (hl0 : l0.length ≤ 1000000) (hl1 : l1.length ≤ 1000000) (hl2 : l2.length ≤ 1000000) (hl3 : l3.length ≤ 1000000) (hl4 : l4.length ≤ 1000000) (hl5 : l5.length ≤ 1000000) (hl6 : l6.length ≤ 1000000) (hl7 : l7.length ≤ 1000000) (hl8 : l8.length ≤ 1000000) (hl9 : l9.length ≤ 1000000) (hs : ¬ (vldR n0 l0 n1 l1 = true ∧ vldR n2 l2 n3 l3 = true ∧ vldR n4 l4 n5 l5 = true ∧ vldR n6 l6 n7 l7 = true ∧ vldR n8 l8 n9 l9 = true)) :
    Ret Tryz.prog 40 [.a [.bool n0, lC l0, .bool n1, lC l1, .bool n2, lC l2, .bool n3, lC l3, .bool n4, lC l4, .bool n5, lC l5, .bool n6, lC l6, .bool n7, lC l7, .bool n8, lC l8, .bool n9, lC l9]] (.e (.c (.bool false))) := by
  refine ret_of_body (md := {}) Tryz.func40 (by kernel_rfl) rfl ?_
  simp only [Tryz.f40, List.map_cons, List.map_nil, List.length_cons, List.length_nil, Nat.zero_add, Nat.reduceAdd, Nat.reduceSub, List.reduceReplicate, List.cons_append, List.nil_append]
  refine pwx_sr 1 [] (by rfl) (fun K1 hK1 => ?_)
  simp (disch := omega) only [go_sem]
  refine hK1 _ ?_
  clear hK1 K1
  refine pwp_seq ?_
  refine pwx_sr 1 [] (by rfl) (fun K2 hK2 => ?_)
  simp (maxSteps := 3000000) (disch := omega) only [go_sem]
  refine hK2 _ ?_
  clear hK2 K2
  refine pwp_block ?_
  refine pwp_loopF (false :: true :: true :: false :: false :: false :: false :: false :: false :: false :: false :: false :: false :: false :: false :: false :: false :: true :: true :: true :: false :: false :: false :: false :: false :: false :: false :: false :: false :: false :: false :: false :: false :: false :: false :: false :: false :: false :: false :: false :: false :: false :: false :: false :: false :: false :: false :: false :: false :: false :: false :: false :: false :: false :: false :: []) 1 (fun M s => ∃ u : Nat, (u ≤ 5) ∧ (∀ i, i < u → five_at (vldR n0 l0 n1 l1 = true) (vldR n2 l2 n3 l3 = true) (vldR n4 l4 n5 l5 = true) (vldR n6 l6 n7 l7 = true) (vldR n8 l8 n9 l9 = true) i) ∧ 5 - u = M ∧ s = { slots := .j :: .e (.c (.ptr 0 0)) :: .e (.c (.bool false)) :: .j :: .j :: .j :: .j :: .j :: .j :: .j :: .j :: .j :: .j :: .j :: .j :: .j :: .j :: .e (.c (.sl 5 [.bool n0, lC l0, .bool n1, lC l1, .bool n2, lC l2, .bool n3, lC l3, .bool n4, lC l4, .bool n5, lC l5, .bool n6, lC l6, .bool n7, lC l7, .bool n8, lC l8, .bool n9, lC l9])) :: .e (.c (.int .i64 ((5 : Nat) : Int))) :: .e (.c (.int .i64 (u : Int))) :: .j :: .j :: .j :: .j :: .j :: .j :: .j :: .j :: .j :: .j :: .j :: .j :: .j :: .j :: .j :: .j :: .j :: .j :: .j :: .j :: .j :: .j :: .j :: .j :: .j :: .j :: .j :: .j :: .j :: .j :: .j :: .j :: .j :: .j :: .j :: [], st := [.live [.bool n0, lC l0, .bool n1, lC l1, .bool n2, lC l2, .bool n3, lC l3, .bool n4, lC l4, .bool n5, lC l5, .bool n6, lC l6, .bool n7, lC l7, .bool n8, lC l8, .bool n9, lC l9]] }) (n := 5) rfl ?_ ?_ ?_
  · refine ⟨0, ?_, ?_, rfl, ?_⟩
    · omega
    · intro i hi; omega
    · first | rfl | (simp only [St.cut, keep, if_true, if_false, Bool.false_eq_true, List.take_succ_cons, List.take_zero, List.take_nil]; try simp)
  · refine ⟨rfl, ?_, ?_⟩ <;> first | rfl | (simp [keep, PV.lt, PE.lt, PC.lt, Box.lt, ↓lC_lt]; done) | simp [keep, PV.lt, PE.lt, PC.lt, Box.lt, ↓lC_lt, ↓intC_lt, ↓ratC_lt, ↓u32s_lt]
  · rintro _ _ ⟨u, hu, hk, rfl, rfl⟩
    refine pwx_sr 0 [] (by rfl) (fun K3 hK3 => ?_)
    simp (disch := omega) only [go_sem]
    refine hK3 _ ?_
    clear hK3 K3
    refine pwp_seq ?_
    refine pwp_cond (b := _) (by rfl) (fun hb0 => ?_) (fun hb0 => ?_)
    · refine pwp_skip ?_
      refine n_then ?_
      refine pwp_seq ?_
      refine pwp_block ?_
      rcases ten_cases (show u < 5 by have := of_decide_eq_true hb0; omega) (vldR n0 l0 n1 l1) (vldR n2 l2 n3 l3) (vldR n4 l4 n5 l5) (vldR n6 l6 n7 l7) (vldR n8 l8 n9 l9) with (⟨rfl, h0⟩ | ⟨rfl, h0⟩) | (⟨rfl, h0⟩ | ⟨rfl, h0⟩) | (⟨rfl, h0⟩ | ⟨rfl, h0⟩) | (⟨rfl, h0⟩ | ⟨rfl, h0⟩) | (⟨rfl, h0⟩ | ⟨rfl, h0⟩)
      · refine pwx_sr 1 [] (by rfl) (fun K4 hK4 => ?_)
        simp (disch := omega) only [go_sem, idx_r0, idx_r1, idx_r2, idx_r3, idx_r4]
        refine hK4 _ ?_
        clear hK4 K4
        refine pwx_sr 0 [] (by rfl) (fun K5 hK5 => ?_)
        refine rgnX_take 2 (fun K6 hK6 => ?_)
        simp (disch := omega) only [go_sem, h0]
        refine ⟨_, c_rational_Valid _ _ _ _ (by omega) (by omega), ?_⟩
        refine hK6 _ ?_
        simp (disch := omega) only [go_sem, h0]
        refine hK5 _ ?_
        clear hK6 K6 hK5 K5
        refine pwp_cond (b := false) (by rfl) (fun h => nomatch h) (fun _ => ?_)
        refine pwp_skip ?_
        refine n_block ?_
        refine n_then ?_
        refine pwx_region 0 [] (by rfl) (fun K7 hK7 => ?_)
        simp (disch := omega) only [go_sem]
        refine hK7 _ ?_
        clear hK7 K7
        refine n_then ?_
        refine ⟨_, ?hdec, ⟨0 + 1, ?hf0, ?hf1, rfl, ?heq⟩, ?hok⟩
        case heq => first | rfl | (simp only [St.cut, keep, if_true, if_false, Bool.false_eq_true, List.take_succ_cons, List.take_zero, List.take_nil]; try simp)
        case hf0 => omega
        case hf1 => exact five_step hk h0
        case hdec => omega
        case hok => refine ⟨rfl, ?_, ?_⟩ <;> first | rfl | (simp [keep, PV.lt, PE.lt, PC.lt, Box.lt, ↓lC_lt]; done) | simp [keep, PV.lt, PE.lt, PC.lt, Box.lt, ↓lC_lt, ↓intC_lt, ↓ratC_lt, ↓u32s_lt]
      · refine pwx_sr 1 [] (by rfl) (fun K8 hK8 => ?_)
        simp (disch := omega) only [go_sem, idx_r0, idx_r1, idx_r2, idx_r3, idx_r4]
        refine hK8 _ ?_
        clear hK8 K8
        refine pwx_sr 0 [] (by rfl) (fun K9 hK9 => ?_)
        refine rgnX_take 2 (fun K10 hK10 => ?_)
        simp (disch := omega) only [go_sem, h0]
        refine ⟨_, c_rational_Valid _ _ _ _ (by omega) (by omega), ?_⟩
        refine hK10 _ ?_
        simp (disch := omega) only [go_sem, h0]
        refine hK9 _ ?_
        clear hK10 K10 hK9 K9
        refine pwp_cond (b := true) (by rfl) (fun _ => ?_) (fun h => nomatch h)
        refine pwx_sr 0 [] (by rfl) (fun K11 hK11 => ?_)
        simp (disch := omega) only [go_sem]
        refine hK11 _ ?_
        clear hK11 K11
        refine pwp_ret ?_
        refine r_block ?_
        refine r_then ?_
        refine r_then ?_
        refine r_block ?_
        refine r_then ?_
        refine ⟨Or.inr rfl, ?_⟩
        simp (disch := omega) only [go_sem]
      · refine pwx_sr 1 [] (by rfl) (fun K12 hK12 => ?_)
        simp (disch := omega) only [go_sem, idx_r0, idx_r1, idx_r2, idx_r3, idx_r4]
        refine hK12 _ ?_
        clear hK12 K12
        refine pwx_sr 0 [] (by rfl) (fun K13 hK13 => ?_)
        refine rgnX_take 2 (fun K14 hK14 => ?_)
        simp (disch := omega) only [go_sem, h0]
        refine ⟨_, c_rational_Valid _ _ _ _ (by omega) (by omega), ?_⟩
        refine hK14 _ ?_
        simp (disch := omega) only [go_sem, h0]
        refine hK13 _ ?_
        clear hK14 K14 hK13 K13
        refine pwp_cond (b := false) (by rfl) (fun h => nomatch h) (fun _ => ?_)
        refine pwp_skip ?_
        refine n_block ?_
        refine n_then ?_
        refine pwx_region 0 [] (by rfl) (fun K15 hK15 => ?_)
        simp (disch := omega) only [go_sem]
        refine hK15 _ ?_
        clear hK15 K15
        refine n_then ?_
        refine ⟨_, ?hdec, ⟨1 + 1, ?hf0, ?hf1, rfl, ?heq⟩, ?hok⟩
        case heq => first | rfl | (simp only [St.cut, keep, if_true, if_false, Bool.false_eq_true, List.take_succ_cons, List.take_zero, List.take_nil]; try simp)
        case hf0 => omega
        case hf1 => exact five_step hk h0
        case hdec => omega
        case hok => refine ⟨rfl, ?_, ?_⟩ <;> first | rfl | (simp [keep, PV.lt, PE.lt, PC.lt, Box.lt, ↓lC_lt]; done) | simp [keep, PV.lt, PE.lt, PC.lt, Box.lt, ↓lC_lt, ↓intC_lt, ↓ratC_lt, ↓u32s_lt]
      · refine pwx_sr 1 [] (by rfl) (fun K16 hK16 => ?_)
        simp (disch := omega) only [go_sem, idx_r0, idx_r1, idx_r2, idx_r3, idx_r4]
        refine hK16 _ ?_
        clear hK16 K16
        refine pwx_sr 0 [] (by rfl) (fun K17 hK17 => ?_)
        refine rgnX_take 2 (fun K18 hK18 => ?_)
        simp (disch := omega) only [go_sem, h0]
        refine ⟨_, c_rational_Valid _ _ _ _ (by omega) (by omega), ?_⟩
        refine hK18 _ ?_
        simp (disch := omega) only [go_sem, h0]
        refine hK17 _ ?_
        clear hK18 K18 hK17 K17
        refine pwp_cond (b := true) (by rfl) (fun _ => ?_) (fun h => nomatch h)
        refine pwx_sr 0 [] (by rfl) (fun K19 hK19 => ?_)
        simp (disch := omega) only [go_sem]
        refine hK19 _ ?_
        clear hK19 K19
        refine pwp_ret ?_
        refine r_block ?_
        refine r_then ?_
        refine r_then ?_
        refine r_block ?_
        refine r_then ?_
        refine ⟨Or.inr rfl, ?_⟩
        simp (disch := omega) only [go_sem]
      · refine pwx_sr 1 [] (by rfl) (fun K20 hK20 => ?_)
        simp (disch := omega) only [go_sem, idx_r0, idx_r1, idx_r2, idx_r3, idx_r4]
        refine hK20 _ ?_
        clear hK20 K20
        refine pwx_sr 0 [] (by rfl) (fun K21 hK21 => ?_)
        refine rgnX_take 2 (fun K22 hK22 => ?_)
        simp (disch := omega) only [go_sem, h0]
        refine ⟨_, c_rational_Valid _ _ _ _ (by omega) (by omega), ?_⟩
        refine hK22 _ ?_
        simp (disch := omega) only [go_sem, h0]
        refine hK21 _ ?_
        clear hK22 K22 hK21 K21
        refine pwp_cond (b := false) (by rfl) (fun h => nomatch h) (fun _ => ?_)
        refine pwp_skip ?_
        refine n_block ?_
        refine n_then ?_
        refine pwx_region 0 [] (by rfl) (fun K23 hK23 => ?_)
        simp (disch := omega) only [go_sem]
        refine hK23 _ ?_
        clear hK23 K23
        refine n_then ?_
        refine ⟨_, ?hdec, ⟨2 + 1, ?hf0, ?hf1, rfl, ?heq⟩, ?hok⟩
        case heq => first | rfl | (simp only [St.cut, keep, if_true, if_false, Bool.false_eq_true, List.take_succ_cons, List.take_zero, List.take_nil]; try simp)
        case hf0 => omega
        case hf1 => exact five_step hk h0
        case hdec => omega
        case hok => refine ⟨rfl, ?_, ?_⟩ <;> first | rfl | (simp [keep, PV.lt, PE.lt, PC.lt, Box.lt, ↓lC_lt]; done) | simp [keep, PV.lt, PE.lt, PC.lt, Box.lt, ↓lC_lt, ↓intC_lt, ↓ratC_lt, ↓u32s_lt]
      · refine pwx_sr 1 [] (by rfl) (fun K24 hK24 => ?_)
        simp (disch := omega) only [go_sem, idx_r0, idx_r1, idx_r2, idx_r3, idx_r4]
        refine hK24 _ ?_
        clear hK24 K24
        refine pwx_sr 0 [] (by rfl) (fun K25 hK25 => ?_)
        refine rgnX_take 2 (fun K26 hK26 => ?_)
        simp (disch := omega) only [go_sem, h0]
        refine ⟨_, c_rational_Valid _ _ _ _ (by omega) (by omega), ?_⟩
        refine hK26 _ ?_
        simp (disch := omega) only [go_sem, h0]
        refine hK25 _ ?_
        clear hK26 K26 hK25 K25
        refine pwp_cond (b := true) (by rfl) (fun _ => ?_) (fun h => nomatch h)
        refine pwx_sr 0 [] (by rfl) (fun K27 hK27 => ?_)
        simp (disch := omega) only [go_sem]
        refine hK27 _ ?_
        clear hK27 K27
        refine pwp_ret ?_
        refine r_block ?_
        refine r_then ?_
        refine r_then ?_
        refine r_block ?_
        refine r_then ?_
        refine ⟨Or.inr rfl, ?_⟩
        simp (disch := omega) only [go_sem]
      · refine pwx_sr 1 [] (by rfl) (fun K28 hK28 => ?_)
        simp (disch := omega) only [go_sem, idx_r0, idx_r1, idx_r2, idx_r3, idx_r4]
        refine hK28 _ ?_
        clear hK28 K28
        refine pwx_sr 0 [] (by rfl) (fun K29 hK29 => ?_)
        refine rgnX_take 2 (fun K30 hK30 => ?_)
        simp (disch := omega) only [go_sem, h0]
        refine ⟨_, c_rational_Valid _ _ _ _ (by omega) (by omega), ?_⟩
        refine hK30 _ ?_
        simp (disch := omega) only [go_sem, h0]
        refine hK29 _ ?_
        clear hK30 K30 hK29 K29
        refine pwp_cond (b := false) (by rfl) (fun h => nomatch h) (fun _ => ?_)
        refine pwp_skip ?_
        refine n_block ?_
        refine n_then ?_
        refine pwx_region 0 [] (by rfl) (fun K31 hK31 => ?_)
        simp (disch := omega) only [go_sem]
        refine hK31 _ ?_
        clear hK31 K31
        refine n_then ?_
        refine ⟨_, ?hdec, ⟨3 + 1, ?hf0, ?hf1, rfl, ?heq⟩, ?hok⟩
        case heq => first | rfl | (simp only [St.cut, keep, if_true, if_false, Bool.false_eq_true, List.take_succ_cons, List.take_zero, List.take_nil]; try simp)
        case hf0 => omega
        case hf1 => exact five_step hk h0
        case hdec => omega
        case hok => refine ⟨rfl, ?_, ?_⟩ <;> first | rfl | (simp [keep, PV.lt, PE.lt, PC.lt, Box.lt, ↓lC_lt]; done) | simp [keep, PV.lt, PE.lt, PC.lt, Box.lt, ↓lC_lt, ↓intC_lt, ↓ratC_lt, ↓u32s_lt]
      · refine pwx_sr 1 [] (by rfl) (fun K32 hK32 => ?_)
        simp (disch := omega) only [go_sem, idx_r0, idx_r1, idx_r2, idx_r3, idx_r4]
        refine hK32 _ ?_
        clear hK32 K32
        refine pwx_sr 0 [] (by rfl) (fun K33 hK33 => ?_)
        refine rgnX_take 2 (fun K34 hK34 => ?_)
        simp (disch := omega) only [go_sem, h0]
        refine ⟨_, c_rational_Valid _ _ _ _ (by omega) (by omega), ?_⟩
        refine hK34 _ ?_
        simp (disch := omega) only [go_sem, h0]
        refine hK33 _ ?_
        clear hK34 K34 hK33 K33
        refine pwp_cond (b := true) (by rfl) (fun _ => ?_) (fun h => nomatch h)
        refine pwx_sr 0 [] (by rfl) (fun K35 hK35 => ?_)
        simp (disch := omega) only [go_sem]
        refine hK35 _ ?_
        clear hK35 K35
        refine pwp_ret ?_
        refine r_block ?_
        refine r_then ?_
        refine r_then ?_
        refine r_block ?_
        refine r_then ?_
        refine ⟨Or.inr rfl, ?_⟩
        simp (disch := omega) only [go_sem]
      · refine pwx_sr 1 [] (by rfl) (fun K36 hK36 => ?_)
        simp (disch := omega) only [go_sem, idx_r0, idx_r1, idx_r2, idx_r3, idx_r4]
        refine hK36 _ ?_
        clear hK36 K36
        refine pwx_sr 0 [] (by rfl) (fun K37 hK37 => ?_)
        refine rgnX_take 2 (fun K38 hK38 => ?_)
        simp (disch := omega) only [go_sem, h0]
        refine ⟨_, c_rational_Valid _ _ _ _ (by omega) (by omega), ?_⟩
        refine hK38 _ ?_
        simp (disch := omega) only [go_sem, h0]
        refine hK37 _ ?_
        clear hK38 K38 hK37 K37
        refine pwp_cond (b := false) (by rfl) (fun h => nomatch h) (fun _ => ?_)
        refine pwp_skip ?_
        refine n_block ?_
        refine n_then ?_
        refine pwx_region 0 [] (by rfl) (fun K39 hK39 => ?_)
        simp (disch := omega) only [go_sem]
        refine hK39 _ ?_
        clear hK39 K39
        refine n_then ?_
        refine ⟨_, ?hdec, ⟨4 + 1, ?hf0, ?hf1, rfl, ?heq⟩, ?hok⟩
        case heq => first | rfl | (simp only [St.cut, keep, if_true, if_false, Bool.false_eq_true, List.take_succ_cons, List.take_zero, List.take_nil]; try simp)
        case hf0 => omega
        case hf1 => exact five_step hk h0
        case hdec => omega
        case hok => refine ⟨rfl, ?_, ?_⟩ <;> first | rfl | (simp [keep, PV.lt, PE.lt, PC.lt, Box.lt, ↓lC_lt]; done) | simp [keep, PV.lt, PE.lt, PC.lt, Box.lt, ↓lC_lt, ↓intC_lt, ↓ratC_lt, ↓u32s_lt]
      · refine pwx_sr 1 [] (by rfl) (fun K40 hK40 => ?_)
        simp (disch := omega) only [go_sem, idx_r0, idx_r1, idx_r2, idx_r3, idx_r4]
        refine hK40 _ ?_
        clear hK40 K40
        refine pwx_sr 0 [] (by rfl) (fun K41 hK41 => ?_)
        refine rgnX_take 2 (fun K42 hK42 => ?_)
        simp (disch := omega) only [go_sem, h0]
        refine ⟨_, c_rational_Valid _ _ _ _ (by omega) (by omega), ?_⟩
        refine hK42 _ ?_
        simp (disch := omega) only [go_sem, h0]
        refine hK41 _ ?_
        clear hK42 K42 hK41 K41
        refine pwp_cond (b := true) (by rfl) (fun _ => ?_) (fun h => nomatch h)
        refine pwx_sr 0 [] (by rfl) (fun K43 hK43 => ?_)
        simp (disch := omega) only [go_sem]
        refine hK43 _ ?_
        clear hK43 K43
        refine pwp_ret ?_
        refine r_block ?_
        refine r_then ?_
        refine r_then ?_
        refine r_block ?_
        refine r_then ?_
        refine ⟨Or.inr rfl, ?_⟩
        simp (disch := omega) only [go_sem]
    · exfalso; have : u = 5 := by { have := of_decide_eq_false hb0; omega }; subst this; exact hs (five_all hk)
set_option maxHeartbeats 4000000 in
theorem c_point_Valid (a b d e c : Rat) {k1 k2 k3 k4 k5 : Nat} [SzR a k1] [SzR b k2] [SzR d k3] [SzR e k4] [SzR c k5] (hk : k1 + k2 + k3 + k4 + k5 ≤ 10000) :
    Ret Tryz.prog 40 [.a (ratC (a) ++ (ratC (b) ++ (ratC (d) ++ (ratC (e) ++ ratC (c)))))] (.e (.c (.bool (vldP b e c)))) := by
  refine ret_of_body (md := {}) Tryz.func40 (by kernel_rfl) rfl ?_
  simp only [Tryz.f40, List.map_cons, List.map_nil, List.length_cons, List.length_nil, Nat.zero_add, Nat.reduceAdd, Nat.reduceSub, List.reduceReplicate, List.cons_append, List.nil_append]
  refine pwx_sr 1 [] (by rfl) (fun K1 hK1 => ?_)
  simp (disch := omega) only [go_sem]
  refine hK1 _ ?_
  clear hK1 K1
  refine pwp_seq ?_
  refine pwx_sr 1 [] (by rfl) (fun K2 hK2 => ?_)
  simp (maxSteps := 3000000) (disch := omega) only [go_sem]
  refine hK2 _ ?_
  clear hK2 K2
  refine pwp_block ?_
  refine pwp_loopF (false :: true :: true :: false :: false :: false :: false :: false :: false :: false :: false :: false :: false :: false :: false :: false :: false :: true :: true :: true :: false :: false :: false :: false :: false :: false :: false :: false :: false :: false :: false :: false :: false :: false :: false :: false :: false :: false :: false :: false :: false :: false :: false :: false :: false :: false :: false :: false :: false :: false :: false :: false :: false :: false :: false :: []) 1 (fun M s => ∃ u : Nat, (u ≤ 5) ∧ 5 - u = M ∧ s = { slots := .j :: .e (.c (.ptr 0 0)) :: .e (.c (.bool false)) :: .j :: .j :: .j :: .j :: .j :: .j :: .j :: .j :: .j :: .j :: .j :: .j :: .j :: .j :: .e (.c (.sl 5 (ratC a ++ (ratC b ++ (ratC d ++ (ratC e ++ ratC c)))))) :: .e (.c (.int .i64 ((5 : Nat) : Int))) :: .e (.c (.int .i64 (u : Int))) :: .j :: .j :: .j :: .j :: .j :: .j :: .j :: .j :: .j :: .j :: .j :: .j :: .j :: .j :: .j :: .j :: .j :: .j :: .j :: .j :: .j :: .j :: .j :: .j :: .j :: .j :: .j :: .j :: .j :: .j :: .j :: .j :: .j :: .j :: .j :: [], st := [.live (ratC a ++ (ratC b ++ (ratC d ++ (ratC e ++ ratC c))))] }) (n := 5) rfl ?_ ?_ ?_
  · refine ⟨0, ?_, rfl, ?_⟩
    · omega
    · first | rfl | (simp only [St.cut, keep, if_true, if_false, Bool.false_eq_true, List.take_succ_cons, List.take_zero, List.take_nil]; try simp)
  · refine ⟨rfl, ?_, ?_⟩ <;> first | rfl | (simp [keep, PV.lt, PE.lt, PC.lt, Box.lt, ↓lC_lt]; done) | simp [keep, PV.lt, PE.lt, PC.lt, Box.lt, ↓lC_lt, ↓intC_lt, ↓ratC_lt, ↓u32s_lt]
  · rintro _ _ ⟨u, hu, rfl, rfl⟩
    refine pwx_sr 0 [] (by rfl) (fun K3 hK3 => ?_)
    simp (disch := omega) only [go_sem]
    refine hK3 _ ?_
    clear hK3 K3
    refine pwp_seq ?_
    refine pwp_cond (b := _) (by rfl) (fun hb0 => ?_) (fun hb0 => ?_)
    · refine pwp_skip ?_
      refine n_then ?_
      refine pwp_seq ?_
      refine pwp_block ?_
      rcases five_cases (show u < 5 by have := of_decide_eq_true hb0; omega) with rfl | rfl | rfl | rfl | rfl
      · refine pwx_sr 1 [] (by rfl) (fun K4 hK4 => ?_)
        simp (disch := omega) only [go_sem, idx_q0, idx_q1, idx_q2, idx_q3, idx_q4]
        refine hK4 _ ?_
        clear hK4 K4
        refine pwx_sr 0 [] (by rfl) (fun K5 hK5 => ?_)
        refine rgnX_take 2 (fun K6 hK6 => ?_)
        simp (disch := omega) only [go_sem]
        refine ⟨_, c_rational_ValidQ _ (by omega), ?_⟩
        refine hK6 _ ?_
        simp (disch := omega) only [go_sem]
        refine hK5 _ ?_
        clear hK6 K6 hK5 K5
        refine pwp_cond (b := false) (by rfl) (fun h => nomatch h) (fun _ => ?_)
        refine pwp_skip ?_
        refine n_block ?_
        refine n_then ?_
        refine pwx_region 0 [] (by rfl) (fun K7 hK7 => ?_)
        simp (disch := omega) only [go_sem]
        refine hK7 _ ?_
        clear hK7 K7
        refine n_then ?_
        refine ⟨_, ?hdec, ⟨0 + 1, ?hf0, rfl, ?heq⟩, ?hok⟩
        case heq => first | rfl | (simp only [St.cut, keep, if_true, if_false, Bool.false_eq_true, List.take_succ_cons, List.take_zero, List.take_nil]; try simp)
        case hf0 => omega
        case hdec => omega
        case hok => refine ⟨rfl, ?_, ?_⟩ <;> first | rfl | (simp [keep, PV.lt, PE.lt, PC.lt, Box.lt, ↓lC_lt]; done) | simp [keep, PV.lt, PE.lt, PC.lt, Box.lt, ↓lC_lt, ↓intC_lt, ↓ratC_lt, ↓u32s_lt]
      · refine pwx_sr 1 [] (by rfl) (fun K8 hK8 => ?_)
        simp (disch := omega) only [go_sem, idx_q0, idx_q1, idx_q2, idx_q3, idx_q4]
        refine hK8 _ ?_
        clear hK8 K8
        refine pwx_sr 0 [] (by rfl) (fun K9 hK9 => ?_)
        refine rgnX_take 2 (fun K10 hK10 => ?_)
        simp (disch := omega) only [go_sem]
        refine ⟨_, c_rational_ValidQ _ (by omega), ?_⟩
        refine hK10 _ ?_
        simp (disch := omega) only [go_sem]
        refine hK9 _ ?_
        clear hK10 K10 hK9 K9
        refine pwp_cond (b := false) (by rfl) (fun h => nomatch h) (fun _ => ?_)
        refine pwp_skip ?_
        refine n_block ?_
        refine n_then ?_
        refine pwx_region 0 [] (by rfl) (fun K11 hK11 => ?_)
        simp (disch := omega) only [go_sem]
        refine hK11 _ ?_
        clear hK11 K11
        refine n_then ?_
        refine ⟨_, ?hdec, ⟨1 + 1, ?hf0, rfl, ?heq⟩, ?hok⟩
        case heq => first | rfl | (simp only [St.cut, keep, if_true, if_false, Bool.false_eq_true, List.take_succ_cons, List.take_zero, List.take_nil]; try simp)
        case hf0 => omega
        case hdec => omega
        case hok => refine ⟨rfl, ?_, ?_⟩ <;> first | rfl | (simp [keep, PV.lt, PE.lt, PC.lt, Box.lt, ↓lC_lt]; done) | simp [keep, PV.lt, PE.lt, PC.lt, Box.lt, ↓lC_lt, ↓intC_lt, ↓ratC_lt, ↓u32s_lt]
      · refine pwx_sr 1 [] (by rfl) (fun K12 hK12 => ?_)
        simp (disch := omega) only [go_sem, idx_q0, idx_q1, idx_q2, idx_q3, idx_q4]
        refine hK12 _ ?_
        clear hK12 K12
        refine pwx_sr 0 [] (by rfl) (fun K13 hK13 => ?_)
        refine rgnX_take 2 (fun K14 hK14 => ?_)
        simp (disch := omega) only [go_sem]
        refine ⟨_, c_rational_ValidQ _ (by omega), ?_⟩
        refine hK14 _ ?_
        simp (disch := omega) only [go_sem]
        refine hK13 _ ?_
        clear hK14 K14 hK13 K13
        refine pwp_cond (b := false) (by rfl) (fun h => nomatch h) (fun _ => ?_)
        refine pwp_skip ?_
        refine n_block ?_
        refine n_then ?_
        refine pwx_region 0 [] (by rfl) (fun K15 hK15 => ?_)
        simp (disch := omega) only [go_sem]
        refine hK15 _ ?_
        clear hK15 K15
        refine n_then ?_
        refine ⟨_, ?hdec, ⟨2 + 1, ?hf0, rfl, ?heq⟩, ?hok⟩
        case heq => first | rfl | (simp only [St.cut, keep, if_true, if_false, Bool.false_eq_true, List.take_succ_cons, List.take_zero, List.take_nil]; try simp)
        case hf0 => omega
        case hdec => omega
        case hok => refine ⟨rfl, ?_, ?_⟩ <;> first | rfl | (simp [keep, PV.lt, PE.lt, PC.lt, Box.lt, ↓lC_lt]; done) | simp [keep, PV.lt, PE.lt, PC.lt, Box.lt, ↓lC_lt, ↓intC_lt, ↓ratC_lt, ↓u32s_lt]
      · refine pwx_sr 1 [] (by rfl) (fun K16 hK16 => ?_)
        simp (disch := omega) only [go_sem, idx_q0, idx_q1, idx_q2, idx_q3, idx_q4]
        refine hK16 _ ?_
        clear hK16 K16
        refine pwx_sr 0 [] (by rfl) (fun K17 hK17 => ?_)
        refine rgnX_take 2 (fun K18 hK18 => ?_)
        simp (disch := omega) only [go_sem]
        refine ⟨_, c_rational_ValidQ _ (by omega), ?_⟩
        refine hK18 _ ?_
        simp (disch := omega) only [go_sem]
        refine hK17 _ ?_
        clear hK18 K18 hK17 K17
        refine pwp_cond (b := false) (by rfl) (fun h => nomatch h) (fun _ => ?_)
        refine pwp_skip ?_
        refine n_block ?_
        refine n_then ?_
        refine pwx_region 0 [] (by rfl) (fun K19 hK19 => ?_)
        simp (disch := omega) only [go_sem]
        refine hK19 _ ?_
        clear hK19 K19
        refine n_then ?_
        refine ⟨_, ?hdec, ⟨3 + 1, ?hf0, rfl, ?heq⟩, ?hok⟩
        case heq => first | rfl | (simp only [St.cut, keep, if_true, if_false, Bool.false_eq_true, List.take_succ_cons, List.take_zero, List.take_nil]; try simp)
        case hf0 => omega
        case hdec => omega
        case hok => refine ⟨rfl, ?_, ?_⟩ <;> first | rfl | (simp [keep, PV.lt, PE.lt, PC.lt, Box.lt, ↓lC_lt]; done) | simp [keep, PV.lt, PE.lt, PC.lt, Box.lt, ↓lC_lt, ↓intC_lt, ↓ratC_lt, ↓u32s_lt]
      · refine pwx_sr 1 [] (by rfl) (fun K20 hK20 => ?_)
        simp (disch := omega) only [go_sem, idx_q0, idx_q1, idx_q2, idx_q3, idx_q4]
        refine hK20 _ ?_
        clear hK20 K20
        refine pwx_sr 0 [] (by rfl) (fun K21 hK21 => ?_)
        refine rgnX_take 2 (fun K22 hK22 => ?_)
        simp (disch := omega) only [go_sem]
        refine ⟨_, c_rational_ValidQ _ (by omega), ?_⟩
        refine hK22 _ ?_
        simp (disch := omega) only [go_sem]
        refine hK21 _ ?_
        clear hK22 K22 hK21 K21
        refine pwp_cond (b := false) (by rfl) (fun h => nomatch h) (fun _ => ?_)
        refine pwp_skip ?_
        refine n_block ?_
        refine n_then ?_
        refine pwx_region 0 [] (by rfl) (fun K23 hK23 => ?_)
        simp (disch := omega) only [go_sem]
        refine hK23 _ ?_
        clear hK23 K23
        refine n_then ?_
        refine ⟨_, ?hdec, ⟨4 + 1, ?hf0, rfl, ?heq⟩, ?hok⟩
        case heq => first | rfl | (simp only [St.cut, keep, if_true, if_false, Bool.false_eq_true, List.take_succ_cons, List.take_zero, List.take_nil]; try simp)
        case hf0 => omega
        case hdec => omega
        case hok => refine ⟨rfl, ?_, ?_⟩ <;> first | rfl | (simp [keep, PV.lt, PE.lt, PC.lt, Box.lt, ↓lC_lt]; done) | simp [keep, PV.lt, PE.lt, PC.lt, Box.lt, ↓lC_lt, ↓intC_lt, ↓ratC_lt, ↓u32s_lt]
    · refine pwp_exit ?_
      refine e_then ?_
      refine e_then ?_
      refine e_here ?_
      refine n_then ?_
      refine pwp_seq ?_
      by_cases hb0 : b = 0 <;> by_cases he0 : e = 0
      · have hbd := decide_eq_true hb0
        have hed := decide_eq_true he0
        refine pwx_sr 0 [some 27, some 28, some 29, some 30, some 31, some 32, some 33, some 34, some 35, some 36] (by rfl) (fun K24 hK24 => ?_)
        refine rgnX_take 3 (fun K25 hK25 => ?_)
        simp (disch := omega) only [go_sem, hbd, hed]
        refine ⟨_, c_rational_Sign _, ?_⟩
        refine hK25 _ ?_
        refine rgnX_take 5 (fun K26 hK26 => ?_)
        simp (disch := omega) only [go_sem, hbd, hed]
        first | refine ⟨_, c_rational_Sign _, ?_⟩ | skip
        refine hK26 _ ?_
        simp (disch := omega) only [go_sem, hbd, hed]
        refine hK24 _ ?_
        clear hK26 K26 hK25 K25 hK24 K24
        refine pwp_cond (b := true) (by rfl) (fun _ => ?_) (fun h => nomatch h)
        refine pwx_sr 0 [] (by rfl) (fun K27 hK27 => ?_)
        refine rgnX_take 3 (fun K28 hK28 => ?_)
        simp (disch := omega) only [go_sem]
        refine ⟨_, c_rational_Sign _, ?_⟩
        refine hK28 _ ?_
        simp (disch := omega) only [go_sem]
        refine hK27 _ ?_
        clear hK28 K28 hK27 K27
        refine pwp_ret ?_
        refine r_then ?_
        refine ⟨Or.inr rfl, ?_⟩
        simp (disch := omega) only [go_sem]
        all_goals simp_all [vldP]
      · have hbd := decide_eq_true hb0
        have hed := decide_eq_false he0
        refine pwx_sr 0 [some 27, some 28, some 29, some 30, some 31, some 32, some 33, some 34, some 35, some 36] (by rfl) (fun K29 hK29 => ?_)
        refine rgnX_take 3 (fun K30 hK30 => ?_)
        simp (disch := omega) only [go_sem, hbd, hed]
        refine ⟨_, c_rational_Sign _, ?_⟩
        refine hK30 _ ?_
        refine rgnX_take 5 (fun K31 hK31 => ?_)
        simp (disch := omega) only [go_sem, hbd, hed]
        first | refine ⟨_, c_rational_Sign _, ?_⟩ | skip
        refine hK31 _ ?_
        simp (disch := omega) only [go_sem, hbd, hed]
        refine hK29 _ ?_
        clear hK31 K31 hK30 K30 hK29 K29
        refine pwp_cond (b := false) (by rfl) (fun h => nomatch h) (fun _ => ?_)
        refine pwp_skip ?_
        refine n_then ?_
        rcases hs : sqB c with _ | _
        · refine pwx_sr 1 [] (by rfl) (fun K32 hK32 => ?_)
          refine rgnX_take 3 (fun K33 hK33 => ?_)
          simp (disch := omega) only [go_sem]
          first | refine ⟨_, c_rational_Sqrt_f _ (by omega) hs, ?_⟩ | refine ⟨_, c_rational_Sqrt_t _ (by omega) hs, ?_⟩
          refine hK33 _ ?_
          simp (disch := omega) only [go_sem]
          refine hK32 _ ?_
          clear hK33 K33 hK32 K32
          by_cases hcp : 0 < c
          · have hcpd := decide_eq_true hcp
            refine pwx_sr 0 [some 47, some 48, some 49, some 50, some 51, some 52, some 53, some 54, some 2] (by rfl) (fun K34 hK34 => ?_)
            refine rgnX_take 3 (fun K35 hK35 => ?_)
            simp (disch := omega) only [go_sem, hcpd, hs]
            refine ⟨_, c_rational_Sign _, ?_⟩
            refine hK35 _ ?_
            simp (disch := omega) only [go_sem, hcpd, hs]
            refine hK34 _ ?_
            clear hK35 K35 hK34 K34
            refine pwp_ret ?_
            refine ⟨Or.inr rfl, ?_⟩
            simp (disch := omega) only [go_sem]
            all_goals simp_all [vldP]
          · have hcpd := decide_eq_false hcp
            refine pwx_sr 0 [some 47, some 48, some 49, some 50, some 51, some 52, some 53, some 54, some 2] (by rfl) (fun K36 hK36 => ?_)
            refine rgnX_take 3 (fun K37 hK37 => ?_)
            simp (disch := omega) only [go_sem, hcpd, hs]
            refine ⟨_, c_rational_Sign _, ?_⟩
            refine hK37 _ ?_
            simp (disch := omega) only [go_sem, hcpd, hs]
            refine hK36 _ ?_
            clear hK37 K37 hK36 K36
            refine pwp_ret ?_
            refine ⟨Or.inr rfl, ?_⟩
            simp (disch := omega) only [go_sem]
            all_goals simp_all [vldP]
        · refine pwx_sr 1 [] (by rfl) (fun K38 hK38 => ?_)
          refine rgnX_take 3 (fun K39 hK39 => ?_)
          simp (disch := omega) only [go_sem]
          first | refine ⟨_, c_rational_Sqrt_f _ (by omega) hs, ?_⟩ | refine ⟨_, c_rational_Sqrt_t _ (by omega) hs, ?_⟩
          refine hK39 _ ?_
          simp (disch := omega) only [go_sem]
          refine hK38 _ ?_
          clear hK39 K39 hK38 K38
          by_cases hcp : 0 < c
          · have hcpd := decide_eq_true hcp
            refine pwx_sr 0 [some 47, some 48, some 49, some 50, some 51, some 52, some 53, some 54, some 2] (by rfl) (fun K40 hK40 => ?_)
            refine rgnX_take 3 (fun K41 hK41 => ?_)
            simp (disch := omega) only [go_sem, hcpd, hs]
            refine ⟨_, c_rational_Sign _, ?_⟩
            refine hK41 _ ?_
            simp (disch := omega) only [go_sem, hcpd, hs]
            refine hK40 _ ?_
            clear hK41 K41 hK40 K40
            refine pwp_ret ?_
            refine ⟨Or.inr rfl, ?_⟩
            simp (disch := omega) only [go_sem]
            all_goals simp_all [vldP]
          · have hcpd := decide_eq_false hcp
            refine pwx_sr 0 [some 47, some 48, some 49, some 50, some 51, some 52, some 53, some 54, some 2] (by rfl) (fun K42 hK42 => ?_)
            refine rgnX_take 3 (fun K43 hK43 => ?_)
            simp (disch := omega) only [go_sem, hcpd, hs]
            refine ⟨_, c_rational_Sign _, ?_⟩
            refine hK43 _ ?_
            simp (disch := omega) only [go_sem, hcpd, hs]
            refine hK42 _ ?_
            clear hK43 K43 hK42 K42
            refine pwp_ret ?_
            refine ⟨Or.inr rfl, ?_⟩
            simp (disch := omega) only [go_sem]
            all_goals simp_all [vldP]
      · have hbd := decide_eq_false hb0
        have hed := decide_eq_true he0
        refine pwx_sr 0 [some 27, some 28, some 29, some 30, some 31, some 32, some 33, some 34, some 35, some 36] (by rfl) (fun K44 hK44 => ?_)
        refine rgnX_take 3 (fun K45 hK45 => ?_)
        simp (disch := omega) only [go_sem, hbd, hed]
        refine ⟨_, c_rational_Sign _, ?_⟩
        refine hK45 _ ?_
        refine rgnX_take 5 (fun K46 hK46 => ?_)
        simp (disch := omega) only [go_sem, hbd, hed]
        first | refine ⟨_, c_rational_Sign _, ?_⟩ | skip
        refine hK46 _ ?_
        simp (disch := omega) only [go_sem, hbd, hed]
        refine hK44 _ ?_
        clear hK46 K46 hK45 K45 hK44 K44
        refine pwp_cond (b := false) (by rfl) (fun h => nomatch h) (fun _ => ?_)
        refine pwp_skip ?_
        refine n_then ?_
        rcases hs : sqB c with _ | _
        · refine pwx_sr 1 [] (by rfl) (fun K47 hK47 => ?_)
          refine rgnX_take 3 (fun K48 hK48 => ?_)
          simp (disch := omega) only [go_sem]
          first | refine ⟨_, c_rational_Sqrt_f _ (by omega) hs, ?_⟩ | refine ⟨_, c_rational_Sqrt_t _ (by omega) hs, ?_⟩
          refine hK48 _ ?_
          simp (disch := omega) only [go_sem]
          refine hK47 _ ?_
          clear hK48 K48 hK47 K47
          by_cases hcp : 0 < c
          · have hcpd := decide_eq_true hcp
            refine pwx_sr 0 [some 47, some 48, some 49, some 50, some 51, some 52, some 53, some 54, some 2] (by rfl) (fun K49 hK49 => ?_)
            refine rgnX_take 3 (fun K50 hK50 => ?_)
            simp (disch := omega) only [go_sem, hcpd, hs]
            refine ⟨_, c_rational_Sign _, ?_⟩
            refine hK50 _ ?_
            simp (disch := omega) only [go_sem, hcpd, hs]
            refine hK49 _ ?_
            clear hK50 K50 hK49 K49
            refine pwp_ret ?_
            refine ⟨Or.inr rfl, ?_⟩
            simp (disch := omega) only [go_sem]
            all_goals simp_all [vldP]
          · have hcpd := decide_eq_false hcp
            refine pwx_sr 0 [some 47, some 48, some 49, some 50, some 51, some 52, some 53, some 54, some 2] (by rfl) (fun K51 hK51 => ?_)
            refine rgnX_take 3 (fun K52 hK52 => ?_)
            simp (disch := omega) only [go_sem, hcpd, hs]
            refine ⟨_, c_rational_Sign _, ?_⟩
            refine hK52 _ ?_
            simp (disch := omega) only [go_sem, hcpd, hs]
            refine hK51 _ ?_
            clear hK52 K52 hK51 K51
            refine pwp_ret ?_
            refine ⟨Or.inr rfl, ?_⟩
            simp (disch := omega) only [go_sem]
            all_goals simp_all [vldP]
        · refine pwx_sr 1 [] (by rfl) (fun K53 hK53 => ?_)
          refine rgnX_take 3 (fun K54 hK54 => ?_)
          simp (disch := omega) only [go_sem]
          first | refine ⟨_, c_rational_Sqrt_f _ (by omega) hs, ?_⟩ | refine ⟨_, c_rational_Sqrt_t _ (by omega) hs, ?_⟩
          refine hK54 _ ?_
          simp (disch := omega) only [go_sem]
          refine hK53 _ ?_
          clear hK54 K54 hK53 K53
          by_cases hcp : 0 < c
          · have hcpd := decide_eq_true hcp
            refine pwx_sr 0 [some 47, some 48, some 49, some 50, some 51, some 52, some 53, some 54, some 2] (by rfl) (fun K55 hK55 => ?_)
            refine rgnX_take 3 (fun K56 hK56 => ?_)
            simp (disch := omega) only [go_sem, hcpd, hs]
            refine ⟨_, c_rational_Sign _, ?_⟩
            refine hK56 _ ?_
            simp (disch := omega) only [go_sem, hcpd, hs]
            refine hK55 _ ?_
            clear hK56 K56 hK55 K55
            refine pwp_ret ?_
            refine ⟨Or.inr rfl, ?_⟩
            simp (disch := omega) only [go_sem]
            all_goals simp_all [vldP]
          · have hcpd := decide_eq_false hcp
            refine pwx_sr 0 [some 47, some 48, some 49, some 50, some 51, some 52, some 53, some 54, some 2] (by rfl) (fun K57 hK57 => ?_)
            refine rgnX_take 3 (fun K58 hK58 => ?_)
            simp (disch := omega) only [go_sem, hcpd, hs]
            refine ⟨_, c_rational_Sign _, ?_⟩
            refine hK58 _ ?_
            simp (disch := omega) only [go_sem, hcpd, hs]
            refine hK57 _ ?_
            clear hK58 K58 hK57 K57
            refine pwp_ret ?_
            refine ⟨Or.inr rfl, ?_⟩
            simp (disch := omega) only [go_sem]
            all_goals simp_all [vldP]
      · have hbd := decide_eq_false hb0
        have hed := decide_eq_false he0
        refine pwx_sr 0 [some 27, some 28, some 29, some 30, some 31, some 32, some 33, some 34, some 35, some 36] (by rfl) (fun K59 hK59 => ?_)
        refine rgnX_take 3 (fun K60 hK60 => ?_)
        simp (disch := omega) only [go_sem, hbd, hed]
        refine ⟨_, c_rational_Sign _, ?_⟩
        refine hK60 _ ?_
        refine rgnX_take 5 (fun K61 hK61 => ?_)
        simp (disch := omega) only [go_sem, hbd, hed]
        first | refine ⟨_, c_rational_Sign _, ?_⟩ | skip
        refine hK61 _ ?_
        simp (disch := omega) only [go_sem, hbd, hed]
        refine hK59 _ ?_
        clear hK61 K61 hK60 K60 hK59 K59
        refine pwp_cond (b := false) (by rfl) (fun h => nomatch h) (fun _ => ?_)
        refine pwp_skip ?_
        refine n_then ?_
        rcases hs : sqB c with _ | _
        · refine pwx_sr 1 [] (by rfl) (fun K62 hK62 => ?_)
          refine rgnX_take 3 (fun K63 hK63 => ?_)
          simp (disch := omega) only [go_sem]
          first | refine ⟨_, c_rational_Sqrt_f _ (by omega) hs, ?_⟩ | refine ⟨_, c_rational_Sqrt_t _ (by omega) hs, ?_⟩
          refine hK63 _ ?_
          simp (disch := omega) only [go_sem]
          refine hK62 _ ?_
          clear hK63 K63 hK62 K62
          by_cases hcp : 0 < c
          · have hcpd := decide_eq_true hcp
            refine pwx_sr 0 [some 47, some 48, some 49, some 50, some 51, some 52, some 53, some 54, some 2] (by rfl) (fun K64 hK64 => ?_)
            refine rgnX_take 3 (fun K65 hK65 => ?_)
            simp (disch := omega) only [go_sem, hcpd, hs]
            refine ⟨_, c_rational_Sign _, ?_⟩
            refine hK65 _ ?_
            simp (disch := omega) only [go_sem, hcpd, hs]
            refine hK64 _ ?_
            clear hK65 K65 hK64 K64
            refine pwp_ret ?_
            refine ⟨Or.inr rfl, ?_⟩
            simp (disch := omega) only [go_sem]
            all_goals simp_all [vldP]
          · have hcpd := decide_eq_false hcp
            refine pwx_sr 0 [some 47, some 48, some 49, some 50, some 51, some 52, some 53, some 54, some 2] (by rfl) (fun K66 hK66 => ?_)
            refine rgnX_take 3 (fun K67 hK67 => ?_)
            simp (disch := omega) only [go_sem, hcpd, hs]
            refine ⟨_, c_rational_Sign _, ?_⟩
            refine hK67 _ ?_
            simp (disch := omega) only [go_sem, hcpd, hs]
            refine hK66 _ ?_
            clear hK67 K67 hK66 K66
            refine pwp_ret ?_
            refine ⟨Or.inr rfl, ?_⟩
            simp (disch := omega) only [go_sem]
            all_goals simp_all [vldP]
        · refine pwx_sr 1 [] (by rfl) (fun K68 hK68 => ?_)
          refine rgnX_take 3 (fun K69 hK69 => ?_)
          simp (disch := omega) only [go_sem]
          first | refine ⟨_, c_rational_Sqrt_f _ (by omega) hs, ?_⟩ | refine ⟨_, c_rational_Sqrt_t _ (by omega) hs, ?_⟩
          refine hK69 _ ?_
          simp (disch := omega) only [go_sem]
          refine hK68 _ ?_
          clear hK69 K69 hK68 K68
          by_cases hcp : 0 < c
          · have hcpd := decide_eq_true hcp
            refine pwx_sr 0 [some 47, some 48, some 49, some 50, some 51, some 52, some 53, some 54, some 2] (by rfl) (fun K70 hK70 => ?_)
            refine rgnX_take 3 (fun K71 hK71 => ?_)
            simp (disch := omega) only [go_sem, hcpd, hs]
            refine ⟨_, c_rational_Sign _, ?_⟩
            refine hK71 _ ?_
            simp (disch := omega) only [go_sem, hcpd, hs]
            refine hK70 _ ?_
            clear hK71 K71 hK70 K70
            refine pwp_ret ?_
            refine ⟨Or.inr rfl, ?_⟩
            simp (disch := omega) only [go_sem]
            all_goals simp_all [vldP]
          · have hcpd := decide_eq_false hcp
            refine pwx_sr 0 [some 47, some 48, some 49, some 50, some 51, some 52, some 53, some 54, some 2] (by rfl) (fun K72 hK72 => ?_)
            refine rgnX_take 3 (fun K73 hK73 => ?_)
            simp (disch := omega) only [go_sem, hcpd, hs]
            refine ⟨_, c_rational_Sign _, ?_⟩
            refine hK73 _ ?_
            simp (disch := omega) only [go_sem, hcpd, hs]
            refine hK72 _ ?_
            clear hK73 K73 hK72 K72
            refine pwp_ret ?_
            refine ⟨Or.inr rfl, ?_⟩
            simp (disch := omega) only [go_sem]
            all_goals simp_all [vldP]
set_option maxHeartbeats 4000000 in
theorem w_PointValid (n0 n1 n2 n3 n4 n5 n6 n7 n8 n9 : Bool) (l0 l1 l2 l3 l4 l5 l6 l7 l8 l9 : List Nat) (hv : l0.length ≤ 3 → l1.length ≤ 3 → l2.length ≤ 3 → l3.length ≤ 3 → l4.length ≤ 3 → l5.length ≤ 3 → l6.length ≤ 3 → l7.length ≤ 3 → l8.length ≤ 3 → l9.length ≤ 3 → ∃ r : Bool, Ret Tryz.prog 40 [.a [.bool n0, lC l0, .bool n1, lC l1, .bool n2, lC l2, .bool n3, lC l3, .bool n4, lC l4, .bool n5, lC l5, .bool n6, lC l6, .bool n7, lC l7, .bool n8, lC l8, .bool n9, lC l9]] (.e (.c (.bool r))) ∧ Ret Tryz.prog 41 [.a [.bool n0, lC l0, .bool n1, lC l1, .bool n2, lC l2, .bool n3, lC l3, .bool n4, lC l4, .bool n5, lC l5, .bool n6, lC l6, .bool n7, lC l7, .bool n8, lC l8, .bool n9, lC l9]] (.e (.c (.bool r)))) :
    Ret Tryz.prog 9 [.a [.bool n0, lC l0, .bool n1, lC l1, .bool n2, lC l2, .bool n3, lC l3, .bool n4, lC l4, .bool n5, lC l5, .bool n6, lC l6, .bool n7, lC l7, .bool n8, lC l8, .bool n9, lC l9]] (.e (.c (.bool true))) := by
  refine ret_of_body (md := {}) Tryz.func9 (by kernel_rfl) rfl ?_
  simp only [Tryz.f9, List.map_cons, List.map_nil, List.length_cons, List.length_nil, Nat.zero_add, Nat.reduceAdd, Nat.reduceSub, List.reduceReplicate, List.cons_append, List.nil_append]
  refine pwx_sr 1 [] (by rfl) (fun K1 hK1 => ?_)
  simp (disch := omega) only [go_sem]
  refine hK1 _ ?_
  clear hK1 K1
  refine pwp_seq ?_
  refine pwx_sr 1 [] (by rfl) (fun K2 hK2 => ?_)
  simp (maxSteps := 3000000) (disch := omega) only [go_sem]
  refine hK2 _ ?_
  clear hK2 K2
  refine pwp_block ?_
  refine pwp_loopF (false :: true :: true :: false :: false :: false :: false :: false :: false :: false :: false :: false :: false :: false :: false :: true :: true :: true :: false :: false :: false :: false :: false :: false :: false :: false :: false :: false :: false :: false :: false :: false :: false :: false :: false :: false :: false :: false :: false :: false :: false :: false :: false :: []) 1 (fun M s => ∃ u : Nat, (u ≤ 5) ∧ (∀ i, i < u → five_at (l0.length ≤ 3 ∧ l1.length ≤ 3) (l2.length ≤ 3 ∧ l3.length ≤ 3) (l4.length ≤ 3 ∧ l5.length ≤ 3) (l6.length ≤ 3 ∧ l7.length ≤ 3) (l8.length ≤ 3 ∧ l9.length ≤ 3) i) ∧ 5 - u = M ∧ s = { slots := .j :: .e (.c (.ptr 0 0)) :: .e (.c (.bool false)) :: .j :: .j :: .j :: .j :: .j :: .j :: .j :: .j :: .j :: .j :: .j :: .j :: .e (.c (.sl 5 [.bool n0, lC l0, .bool n1, lC l1, .bool n2, lC l2, .bool n3, lC l3, .bool n4, lC l4, .bool n5, lC l5, .bool n6, lC l6, .bool n7, lC l7, .bool n8, lC l8, .bool n9, lC l9])) :: .e (.c (.int .i64 ((5 : Nat) : Int))) :: .e (.c (.int .i64 (u : Int))) :: .j :: .j :: .j :: .j :: .j :: .j :: .j :: .j :: .j :: .j :: .j :: .j :: .j :: .j :: .j :: .j :: .j :: .j :: .j :: .j :: .j :: .j :: .j :: .j :: .j :: [], st := [.live [.bool n0, lC l0, .bool n1, lC l1, .bool n2, lC l2, .bool n3, lC l3, .bool n4, lC l4, .bool n5, lC l5, .bool n6, lC l6, .bool n7, lC l7, .bool n8, lC l8, .bool n9, lC l9]] }) (n := 5) rfl ?_ ?_ ?_
  · refine ⟨0, ?_, ?_, rfl, ?_⟩
    · omega
    · intro i hi; omega
    · first | rfl | (simp only [St.cut, keep, if_true, if_false, Bool.false_eq_true, List.take_succ_cons, List.take_zero, List.take_nil]; try simp)
  · refine ⟨rfl, ?_, ?_⟩ <;> first | rfl | (simp [keep, PV.lt, PE.lt, PC.lt, Box.lt, ↓lC_lt]; done) | simp [keep, PV.lt, PE.lt, PC.lt, Box.lt, ↓lC_lt, ↓intC_lt, ↓ratC_lt, ↓u32s_lt]
  · rintro _ _ ⟨u, hu, hk, rfl, rfl⟩
    refine pwx_sr 0 [] (by rfl) (fun K3 hK3 => ?_)
    simp (disch := omega) only [go_sem]
    refine hK3 _ ?_
    clear hK3 K3
    refine pwp_seq ?_
    refine pwp_cond (b := _) (by rfl) (fun hb0 => ?_) (fun hb0 => ?_)
    · refine pwp_skip ?_
      refine n_then ?_
      refine pwp_seq ?_
      refine pwp_block ?_
      rcases fifteen (show u < 5 by have := of_decide_eq_true hb0; omega) l0.length l1.length l2.length l3.length l4.length l5.length l6.length l7.length l8.length l9.length with (⟨rfl, g1⟩ | ⟨rfl, g1, g2⟩ | ⟨rfl, g1, g2⟩) | (⟨rfl, g1⟩ | ⟨rfl, g1, g2⟩ | ⟨rfl, g1, g2⟩) | (⟨rfl, g1⟩ | ⟨rfl, g1, g2⟩ | ⟨rfl, g1, g2⟩) | (⟨rfl, g1⟩ | ⟨rfl, g1, g2⟩ | ⟨rfl, g1, g2⟩) | (⟨rfl, g1⟩ | ⟨rfl, g1, g2⟩ | ⟨rfl, g1, g2⟩)
      · refine pwx_sr 1 [] (by rfl) (fun K4 hK4 => ?_)
        simp (disch := omega) only [go_sem, idx_r0, idx_r1, idx_r2, idx_r3, idx_r4]
        refine hK4 _ ?_
        clear hK4 K4
        refine pwx_sr 0 [some 21, some 22, some 23, some 24, some 25, some 26, some 27, some 28, some 29, some 30, some 31, some 32] (by rfl) (fun K5 hK5 => ?_)
        simp (disch := omega) only [go_sem, ilt_T, ilt_F]
        refine hK5 _ ?_
        clear hK5 K5
        refine pwp_cond (b := true) (by rfl) (fun _ => ?_) (fun h => nomatch h)
        refine pwx_sr 0 [] (by rfl) (fun K6 hK6 => ?_)
        refine rgnX_take 1 (fun K7 hK7 => ?_)
        simp (disch := omega) only [go_sem]
        refine ⟨_, c_swarflaw07_awake, ?_⟩
        refine hK7 _ ?_
        simp (disch := omega) only [go_sem]
        refine hK6 _ ?_
        clear hK7 K7 hK6 K6
        refine pwp_ret ?_
        refine r_block ?_
        refine r_then ?_
        refine r_then ?_
        refine r_block ?_
        refine r_then ?_
        refine ⟨Or.inr rfl, ?_⟩
        simp (disch := omega) only [go_sem]
      · refine pwx_sr 1 [] (by rfl) (fun K8 hK8 => ?_)
        simp (disch := omega) only [go_sem, idx_r0, idx_r1, idx_r2, idx_r3, idx_r4]
        refine hK8 _ ?_
        clear hK8 K8
        refine pwx_sr 0 [some 21, some 22, some 23, some 24, some 25, some 26, some 27, some 28, some 29, some 30, some 31, some 32] (by rfl) (fun K9 hK9 => ?_)
        simp (disch := omega) only [go_sem, ilt_T, ilt_F]
        refine hK9 _ ?_
        clear hK9 K9
        refine pwp_cond (b := true) (by rfl) (fun _ => ?_) (fun h => nomatch h)
        refine pwx_sr 0 [] (by rfl) (fun K10 hK10 => ?_)
        refine rgnX_take 1 (fun K11 hK11 => ?_)
        simp (disch := omega) only [go_sem]
        refine ⟨_, c_swarflaw07_awake, ?_⟩
        refine hK11 _ ?_
        simp (disch := omega) only [go_sem]
        refine hK10 _ ?_
        clear hK11 K11 hK10 K10
        refine pwp_ret ?_
        refine r_block ?_
        refine r_then ?_
        refine r_then ?_
        refine r_block ?_
        refine r_then ?_
        refine ⟨Or.inr rfl, ?_⟩
        simp (disch := omega) only [go_sem]
      · refine pwx_sr 1 [] (by rfl) (fun K12 hK12 => ?_)
        simp (disch := omega) only [go_sem, idx_r0, idx_r1, idx_r2, idx_r3, idx_r4]
        refine hK12 _ ?_
        clear hK12 K12
        refine pwx_sr 0 [some 21, some 22, some 23, some 24, some 25, some 26, some 27, some 28, some 29, some 30, some 31, some 32] (by rfl) (fun K13 hK13 => ?_)
        simp (disch := omega) only [go_sem, ilt_T, ilt_F]
        refine hK13 _ ?_
        clear hK13 K13
        refine pwp_cond (b := false) (by rfl) (fun h => nomatch h) (fun _ => ?_)
        refine pwp_skip ?_
        refine n_block ?_
        refine n_then ?_
        refine pwx_region 0 [] (by rfl) (fun K14 hK14 => ?_)
        simp (disch := omega) only [go_sem]
        refine hK14 _ ?_
        clear hK14 K14
        refine n_then ?_
        refine ⟨_, ?hdec, ⟨0 + 1, ?hf0, ?hf1, rfl, ?heq⟩, ?hok⟩
        case heq => first | rfl | (simp only [St.cut, keep, if_true, if_false, Bool.false_eq_true, List.take_succ_cons, List.take_zero, List.take_nil]; try simp)
        case hf0 => omega
        case hf1 => exact five_step hk ⟨by omega, by omega⟩
        case hdec => omega
        case hok => refine ⟨rfl, ?_, ?_⟩ <;> first | rfl | (simp [keep, PV.lt, PE.lt, PC.lt, Box.lt, ↓lC_lt]; done) | simp [keep, PV.lt, PE.lt, PC.lt, Box.lt, ↓lC_lt, ↓intC_lt, ↓ratC_lt, ↓u32s_lt]
      · refine pwx_sr 1 [] (by rfl) (fun K15 hK15 => ?_)
        simp (disch := omega) only [go_sem, idx_r0, idx_r1, idx_r2, idx_r3, idx_r4]
        refine hK15 _ ?_
        clear hK15 K15
        refine pwx_sr 0 [some 21, some 22, some 23, some 24, some 25, some 26, some 27, some 28, some 29, some 30, some 31, some 32] (by rfl) (fun K16 hK16 => ?_)
        simp (disch := omega) only [go_sem, ilt_T, ilt_F]
        refine hK16 _ ?_
        clear hK16 K16
        refine pwp_cond (b := true) (by rfl) (fun _ => ?_) (fun h => nomatch h)
        refine pwx_sr 0 [] (by rfl) (fun K17 hK17 => ?_)
        refine rgnX_take 1 (fun K18 hK18 => ?_)
        simp (disch := omega) only [go_sem]
        refine ⟨_, c_swarflaw07_awake, ?_⟩
        refine hK18 _ ?_
        simp (disch := omega) only [go_sem]
        refine hK17 _ ?_
        clear hK18 K18 hK17 K17
        refine pwp_ret ?_
        refine r_block ?_
        refine r_then ?_
        refine r_then ?_
        refine r_block ?_
        refine r_then ?_
        refine ⟨Or.inr rfl, ?_⟩
        simp (disch := omega) only [go_sem]
      · refine pwx_sr 1 [] (by rfl) (fun K19 hK19 => ?_)
        simp (disch := omega) only [go_sem, idx_r0, idx_r1, idx_r2, idx_r3, idx_r4]
        refine hK19 _ ?_
        clear hK19 K19
        refine pwx_sr 0 [some 21, some 22, some 23, some 24, some 25, some 26, some 27, some 28, some 29, some 30, some 31, some 32] (by rfl) (fun K20 hK20 => ?_)
        simp (disch := omega) only [go_sem, ilt_T, ilt_F]
        refine hK20 _ ?_
        clear hK20 K20
        refine pwp_cond (b := true) (by rfl) (fun _ => ?_) (fun h => nomatch h)
        refine pwx_sr 0 [] (by rfl) (fun K21 hK21 => ?_)
        refine rgnX_take 1 (fun K22 hK22 => ?_)
        simp (disch := omega) only [go_sem]
        refine ⟨_, c_swarflaw07_awake, ?_⟩
        refine hK22 _ ?_
        simp (disch := omega) only [go_sem]
        refine hK21 _ ?_
        clear hK22 K22 hK21 K21
        refine pwp_ret ?_
        refine r_block ?_
        refine r_then ?_
        refine r_then ?_
        refine r_block ?_
        refine r_then ?_
        refine ⟨Or.inr rfl, ?_⟩
        simp (disch := omega) only [go_sem]
      · refine pwx_sr 1 [] (by rfl) (fun K23 hK23 => ?_)
        simp (disch := omega) only [go_sem, idx_r0, idx_r1, idx_r2, idx_r3, idx_r4]
        refine hK23 _ ?_
        clear hK23 K23
        refine pwx_sr 0 [some 21, some 22, some 23, some 24, some 25, some 26, some 27, some 28, some 29, some 30, some 31, some 32] (by rfl) (fun K24 hK24 => ?_)
        simp (disch := omega) only [go_sem, ilt_T, ilt_F]
        refine hK24 _ ?_
        clear hK24 K24
        refine pwp_cond (b := false) (by rfl) (fun h => nomatch h) (fun _ => ?_)
        refine pwp_skip ?_
        refine n_block ?_
        refine n_then ?_
        refine pwx_region 0 [] (by rfl) (fun K25 hK25 => ?_)
        simp (disch := omega) only [go_sem]
        refine hK25 _ ?_
        clear hK25 K25
        refine n_then ?_
        refine ⟨_, ?hdec, ⟨1 + 1, ?hf0, ?hf1, rfl, ?heq⟩, ?hok⟩
        case heq => first | rfl | (simp only [St.cut, keep, if_true, if_false, Bool.false_eq_true, List.take_succ_cons, List.take_zero, List.take_nil]; try simp)
        case hf0 => omega
        case hf1 => exact five_step hk ⟨by omega, by omega⟩
        case hdec => omega
        case hok => refine ⟨rfl, ?_, ?_⟩ <;> first | rfl | (simp [keep, PV.lt, PE.lt, PC.lt, Box.lt, ↓lC_lt]; done) | simp [keep, PV.lt, PE.lt, PC.lt, Box.lt, ↓lC_lt, ↓intC_lt, ↓ratC_lt, ↓u32s_lt]
      · refine pwx_sr 1 [] (by rfl) (fun K26 hK26 => ?_)
        simp (disch := omega) only [go_sem, idx_r0, idx_r1, idx_r2, idx_r3, idx_r4]
        refine hK26 _ ?_
        clear hK26 K26
        refine pwx_sr 0 [some 21, some 22, some 23, some 24, some 25, some 26, some 27, some 28, some 29, some 30, some 31, some 32] (by rfl) (fun K27 hK27 => ?_)
        simp (disch := omega) only [go_sem, ilt_T, ilt_F]
        refine hK27 _ ?_
        clear hK27 K27
        refine pwp_cond (b := true) (by rfl) (fun _ => ?_) (fun h => nomatch h)
        refine pwx_sr 0 [] (by rfl) (fun K28 hK28 => ?_)
        refine rgnX_take 1 (fun K29 hK29 => ?_)
        simp (disch := omega) only [go_sem]
        refine ⟨_, c_swarflaw07_awake, ?_⟩
        refine hK29 _ ?_
        simp (disch := omega) only [go_sem]
        refine hK28 _ ?_
        clear hK29 K29 hK28 K28
        refine pwp_ret ?_
        refine r_block ?_
        refine r_then ?_
        refine r_then ?_
        refine r_block ?_
        refine r_then ?_
        refine ⟨Or.inr rfl, ?_⟩
        simp (disch := omega) only [go_sem]
      · refine pwx_sr 1 [] (by rfl) (fun K30 hK30 => ?_)
        simp (disch := omega) only [go_sem, idx_r0, idx_r1, idx_r2, idx_r3, idx_r4]
        refine hK30 _ ?_
        clear hK30 K30
        refine pwx_sr 0 [some 21, some 22, some 23, some 24, some 25, some 26, some 27, some 28, some 29, some 30, some 31, some 32] (by rfl) (fun K31 hK31 => ?_)
        simp (disch := omega) only [go_sem, ilt_T, ilt_F]
        refine hK31 _ ?_
        clear hK31 K31
        refine pwp_cond (b := true) (by rfl) (fun _ => ?_) (fun h => nomatch h)
        refine pwx_sr 0 [] (by rfl) (fun K32 hK32 => ?_)
        refine rgnX_take 1 (fun K33 hK33 => ?_)
        simp (disch := omega) only [go_sem]
        refine ⟨_, c_swarflaw07_awake, ?_⟩
        refine hK33 _ ?_
        simp (disch := omega) only [go_sem]
        refine hK32 _ ?_
        clear hK33 K33 hK32 K32
        refine pwp_ret ?_
        refine r_block ?_
        refine r_then ?_
        refine r_then ?_
        refine r_block ?_
        refine r_then ?_
        refine ⟨Or.inr rfl, ?_⟩
        simp (disch := omega) only [go_sem]
      · refine pwx_sr 1 [] (by rfl) (fun K34 hK34 => ?_)
        simp (disch := omega) only [go_sem, idx_r0, idx_r1, idx_r2, idx_r3, idx_r4]
        refine hK34 _ ?_
        clear hK34 K34
        refine pwx_sr 0 [some 21, some 22, some 23, some 24, some 25, some 26, some 27, some 28, some 29, some 30, some 31, some 32] (by rfl) (fun K35 hK35 => ?_)
        simp (disch := omega) only [go_sem, ilt_T, ilt_F]
        refine hK35 _ ?_
        clear hK35 K35
        refine pwp_cond (b := false) (by rfl) (fun h => nomatch h) (fun _ => ?_)
        refine pwp_skip ?_
        refine n_block ?_
        refine n_then ?_
        refine pwx_region 0 [] (by rfl) (fun K36 hK36 => ?_)
        simp (disch := omega) only [go_sem]
        refine hK36 _ ?_
        clear hK36 K36
        refine n_then ?_
        refine ⟨_, ?hdec, ⟨2 + 1, ?hf0, ?hf1, rfl, ?heq⟩, ?hok⟩
        case heq => first | rfl | (simp only [St.cut, keep, if_true, if_false, Bool.false_eq_true, List.take_succ_cons, List.take_zero, List.take_nil]; try simp)
        case hf0 => omega
        case hf1 => exact five_step hk ⟨by omega, by omega⟩
        case hdec => omega
        case hok => refine ⟨rfl, ?_, ?_⟩ <;> first | rfl | (simp [keep, PV.lt, PE.lt, PC.lt, Box.lt, ↓lC_lt]; done) | simp [keep, PV.lt, PE.lt, PC.lt, Box.lt, ↓lC_lt, ↓intC_lt, ↓ratC_lt, ↓u32s_lt]
      · refine pwx_sr 1 [] (by rfl) (fun K37 hK37 => ?_)
        simp (disch := omega) only [go_sem, idx_r0, idx_r1, idx_r2, idx_r3, idx_r4]
        refine hK37 _ ?_
        clear hK37 K37
        refine pwx_sr 0 [some 21, some 22, some 23, some 24, some 25, some 26, some 27, some 28, some 29, some 30, some 31, some 32] (by rfl) (fun K38 hK38 => ?_)
        simp (disch := omega) only [go_sem, ilt_T, ilt_F]
        refine hK38 _ ?_
        clear hK38 K38
        refine pwp_cond (b := true) (by rfl) (fun _ => ?_) (fun h => nomatch h)
        refine pwx_sr 0 [] (by rfl) (fun K39 hK39 => ?_)
        refine rgnX_take 1 (fun K40 hK40 => ?_)
        simp (disch := omega) only [go_sem]
        refine ⟨_, c_swarflaw07_awake, ?_⟩
        refine hK40 _ ?_
        simp (disch := omega) only [go_sem]
        refine hK39 _ ?_
        clear hK40 K40 hK39 K39
        refine pwp_ret ?_
        refine r_block ?_
        refine r_then ?_
        refine r_then ?_
        refine r_block ?_
        refine r_then ?_
        refine ⟨Or.inr rfl, ?_⟩
        simp (disch := omega) only [go_sem]
      · refine pwx_sr 1 [] (by rfl) (fun K41 hK41 => ?_)
        simp (disch := omega) only [go_sem, idx_r0, idx_r1, idx_r2, idx_r3, idx_r4]
        refine hK41 _ ?_
        clear hK41 K41
        refine pwx_sr 0 [some 21, some 22, some 23, some 24, some 25, some 26, some 27, some 28, some 29, some 30, some 31, some 32] (by rfl) (fun K42 hK42 => ?_)
        simp (disch := omega) only [go_sem, ilt_T, ilt_F]
        refine hK42 _ ?_
        clear hK42 K42
        refine pwp_cond (b := true) (by rfl) (fun _ => ?_) (fun h => nomatch h)
        refine pwx_sr 0 [] (by rfl) (fun K43 hK43 => ?_)
        refine rgnX_take 1 (fun K44 hK44 => ?_)
        simp (disch := omega) only [go_sem]
        refine ⟨_, c_swarflaw07_awake, ?_⟩
        refine hK44 _ ?_
        simp (disch := omega) only [go_sem]
        refine hK43 _ ?_
        clear hK44 K44 hK43 K43
        refine pwp_ret ?_
        refine r_block ?_
        refine r_then ?_
        refine r_then ?_
        refine r_block ?_
        refine r_then ?_
        refine ⟨Or.inr rfl, ?_⟩
        simp (disch := omega) only [go_sem]
      · refine pwx_sr 1 [] (by rfl) (fun K45 hK45 => ?_)
        simp (disch := omega) only [go_sem, idx_r0, idx_r1, idx_r2, idx_r3, idx_r4]
        refine hK45 _ ?_
        clear hK45 K45
        refine pwx_sr 0 [some 21, some 22, some 23, some 24, some 25, some 26, some 27, some 28, some 29, some 30, some 31, some 32] (by rfl) (fun K46 hK46 => ?_)
        simp (disch := omega) only [go_sem, ilt_T, ilt_F]
        refine hK46 _ ?_
        clear hK46 K46
        refine pwp_cond (b := false) (by rfl) (fun h => nomatch h) (fun _ => ?_)
        refine pwp_skip ?_
        refine n_block ?_
        refine n_then ?_
        refine pwx_region 0 [] (by rfl) (fun K47 hK47 => ?_)
        simp (disch := omega) only [go_sem]
        refine hK47 _ ?_
        clear hK47 K47
        refine n_then ?_
        refine ⟨_, ?hdec, ⟨3 + 1, ?hf0, ?hf1, rfl, ?heq⟩, ?hok⟩
        case heq => first | rfl | (simp only [St.cut, keep, if_true, if_false, Bool.false_eq_true, List.take_succ_cons, List.take_zero, List.take_nil]; try simp)
        case hf0 => omega
        case hf1 => exact five_step hk ⟨by omega, by omega⟩
        case hdec => omega
        case hok => refine ⟨rfl, ?_, ?_⟩ <;> first | rfl | (simp [keep, PV.lt, PE.lt, PC.lt, Box.lt, ↓lC_lt]; done) | simp [keep, PV.lt, PE.lt, PC.lt, Box.lt, ↓lC_lt, ↓intC_lt, ↓ratC_lt, ↓u32s_lt]
      · refine pwx_sr 1 [] (by rfl) (fun K48 hK48 => ?_)
        simp (disch := omega) only [go_sem, idx_r0, idx_r1, idx_r2, idx_r3, idx_r4]
        refine hK48 _ ?_
        clear hK48 K48
        refine pwx_sr 0 [some 21, some 22, some 23, some 24, some 25, some 26, some 27, some 28, some 29, some 30, some 31, some 32] (by rfl) (fun K49 hK49 => ?_)
        simp (disch := omega) only [go_sem, ilt_T, ilt_F]
        refine hK49 _ ?_
        clear hK49 K49
        refine pwp_cond (b := true) (by rfl) (fun _ => ?_) (fun h => nomatch h)
        refine pwx_sr 0 [] (by rfl) (fun K50 hK50 => ?_)
        refine rgnX_take 1 (fun K51 hK51 => ?_)
        simp (disch := omega) only [go_sem]
        refine ⟨_, c_swarflaw07_awake, ?_⟩
        refine hK51 _ ?_
        simp (disch := omega) only [go_sem]
        refine hK50 _ ?_
        clear hK51 K51 hK50 K50
        refine pwp_ret ?_
        refine r_block ?_
        refine r_then ?_
        refine r_then ?_
        refine r_block ?_
        refine r_then ?_
        refine ⟨Or.inr rfl, ?_⟩
        simp (disch := omega) only [go_sem]
      · refine pwx_sr 1 [] (by rfl) (fun K52 hK52 => ?_)
        simp (disch := omega) only [go_sem, idx_r0, idx_r1, idx_r2, idx_r3, idx_r4]
        refine hK52 _ ?_
        clear hK52 K52
        refine pwx_sr 0 [some 21, some 22, some 23, some 24, some 25, some 26, some 27, some 28, some 29, some 30, some 31, some 32] (by rfl) (fun K53 hK53 => ?_)
        simp (disch := omega) only [go_sem, ilt_T, ilt_F]
        refine hK53 _ ?_
        clear hK53 K53
        refine pwp_cond (b := true) (by rfl) (fun _ => ?_) (fun h => nomatch h)
        refine pwx_sr 0 [] (by rfl) (fun K54 hK54 => ?_)
        refine rgnX_take 1 (fun K55 hK55 => ?_)
        simp (disch := omega) only [go_sem]
        refine ⟨_, c_swarflaw07_awake, ?_⟩
        refine hK55 _ ?_
        simp (disch := omega) only [go_sem]
        refine hK54 _ ?_
        clear hK55 K55 hK54 K54
        refine pwp_ret ?_
        refine r_block ?_
        refine r_then ?_
        refine r_then ?_
        refine r_block ?_
        refine r_then ?_
        refine ⟨Or.inr rfl, ?_⟩
        simp (disch := omega) only [go_sem]
      · refine pwx_sr 1 [] (by rfl) (fun K56 hK56 => ?_)
        simp (disch := omega) only [go_sem, idx_r0, idx_r1, idx_r2, idx_r3, idx_r4]
        refine hK56 _ ?_
        clear hK56 K56
        refine pwx_sr 0 [some 21, some 22, some 23, some 24, some 25, some 26, some 27, some 28, some 29, some 30, some 31, some 32] (by rfl) (fun K57 hK57 => ?_)
        simp (disch := omega) only [go_sem, ilt_T, ilt_F]
        refine hK57 _ ?_
        clear hK57 K57
        refine pwp_cond (b := false) (by rfl) (fun h => nomatch h) (fun _ => ?_)
        refine pwp_skip ?_
        refine n_block ?_
        refine n_then ?_
        refine pwx_region 0 [] (by rfl) (fun K58 hK58 => ?_)
        simp (disch := omega) only [go_sem]
        refine hK58 _ ?_
        clear hK58 K58
        refine n_then ?_
        refine ⟨_, ?hdec, ⟨4 + 1, ?hf0, ?hf1, rfl, ?heq⟩, ?hok⟩
        case heq => first | rfl | (simp only [St.cut, keep, if_true, if_false, Bool.false_eq_true, List.take_succ_cons, List.take_zero, List.take_nil]; try simp)
        case hf0 => omega
        case hf1 => exact five_step hk ⟨by omega, by omega⟩
        case hdec => omega
        case hok => refine ⟨rfl, ?_, ?_⟩ <;> first | rfl | (simp [keep, PV.lt, PE.lt, PC.lt, Box.lt, ↓lC_lt]; done) | simp [keep, PV.lt, PE.lt, PC.lt, Box.lt, ↓lC_lt, ↓intC_lt, ↓ratC_lt, ↓u32s_lt]
    · obtain rfl : u = 5 := by have := of_decide_eq_false hb0; omega
      obtain ⟨⟨a0, a1⟩, ⟨a2, a3⟩, ⟨a4, a5⟩, ⟨a6, a7⟩, a8, a9⟩ := five_all hk
      obtain ⟨r, h1, h2⟩ := hv a0 a1 a2 a3 a4 a5 a6 a7 a8 a9
      refine pwp_exit ?_
      refine e_then ?_
      refine e_then ?_
      refine e_here ?_
      refine n_then ?_
      refine pwx_sd Tryz.mixed 0 [some 35, some 36, some 37, some 38, some 39, some 40, some 41, some 42, some 2] (by rfl) [] (by kernel_rfl) (by simp) (fun K59 hK59 => ?_)
      refine rgnX_take 1 (fun K60 hK60 => ?_)
      simp (disch := omega) only [go_sem]
      refine ⟨_, c_swarflaw07_awake, ?_⟩
      refine hK60 _ ?_
      refine rgnX_take 3 (fun K61 hK61 => ?_)
      simp (disch := omega) only [go_sem]
      first | refine ⟨_, h1, ?_⟩ | skip
      refine hK61 _ ?_
      refine rgnX_take 2 (fun K62 hK62 => ?_)
      simp (disch := omega) only [go_sem]
      first | refine ⟨_, h2, ?_⟩ | skip
      refine hK62 _ ?_
      simp (disch := omega) only [go_sem]
      refine hK59 _ ?_
      clear hK62 K62 hK61 K61 hK60 K60 hK59 K59
      refine pwp_ret ?_
      refine ⟨Or.inr rfl, ?_⟩
      simp (disch := omega) only [go_sem]
theorem r_PointValid (n0 n1 n2 n3 n4 n5 n6 n7 n8 n9 : Bool) (l0 l1 l2 l3 l4 l5 l6 l7 l8 l9 : List Nat) : Ret Tryz.prog 9 [.a [.bool n0, lC l0, .bool n1, lC l1, .bool n2, lC l2, .bool n3, lC l3, .bool n4, lC l4, .bool n5, lC l5, .bool n6, lC l6, .bool n7, lC l7, .bool n8, lC l8, .bool n9, lC l9]] (.e (.c (.bool true))) := by
  refine w_PointValid n0 n1 n2 n3 n4 n5 n6 n7 n8 n9 l0 l1 l2 l3 l4 l5 l6 l7 l8 l9 (fun a0 a1 a2 a3 a4 a5 a6 a7 a8 a9 => ?_)
  by_cases hs : vldR n0 l0 n1 l1 = true ∧ vldR n2 l2 n3 l3 = true ∧ vldR n4 l4 n5 l5 = true ∧ vldR n6 l6 n7 l7 = true ∧ vldR n8 l8 n9 l9 = true
  · obtain ⟨h1, h2, h3, h4, h5⟩ := hs
    obtain ⟨a, rfl, rfl, rfl, rfl⟩ := vldR_true h1
    obtain ⟨b, rfl, rfl, rfl, rfl⟩ := vldR_true h2
    obtain ⟨d, rfl, rfl, rfl, rfl⟩ := vldR_true h3
    obtain ⟨e, rfl, rfl, rfl, rfl⟩ := vldR_true h4
    obtain ⟨c, rfl, rfl, rfl, rfl⟩ := vldR_true h5
    haveI : SzR a 3 := ⟨⟨a0⟩, ⟨a1⟩⟩
    haveI : SzR b 3 := ⟨⟨a2⟩, ⟨a3⟩⟩
    haveI : SzR d 3 := ⟨⟨a4⟩, ⟨a5⟩⟩
    haveI : SzR e 3 := ⟨⟨a6⟩, ⟨a7⟩⟩
    haveI : SzR c 3 := ⟨⟨a8⟩, ⟨a9⟩⟩
    exact ⟨vldP b e c, c_point_Valid a b d e c (by omega), c_swarfref07_Valid a b d e c (by omega)⟩
  · refine ⟨false, c_point_Valid_f n0 n1 n2 n3 n4 n5 n6 n7 n8 n9 l0 l1 l2 l3 l4 l5 l6 l7 l8 l9 (by omega) (by omega) (by omega) (by omega) (by omega) (by omega) (by omega) (by omega) (by omega) (by omega) hs, c_swarfref07_Valid_f n0 n1 n2 n3 n4 n5 n6 n7 n8 n9 l0 l1 l2 l3 l4 l5 l6 l7 l8 l9 (by omega) (by omega) (by omega) (by omega) (by omega) (by omega) (by omega) (by omega) (by omega) (by omega) (fun q => hs ⟨q.1, q.2.2.1, q.2.1, q.2.2.2⟩)⟩

end Go.Proofs.YtbadkjfjdkbgfaaGreat
