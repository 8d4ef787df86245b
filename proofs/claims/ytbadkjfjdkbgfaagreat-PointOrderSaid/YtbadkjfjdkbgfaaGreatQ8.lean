/- The walk of the examples of the chapter on points. Conditions: none.
   The arguments of a row, opened: what they stand for. Conditions: none (lemmas).
   The arguments of the rows, opened. Conditions: none.
   Statements on points, in plain terms. Conditions: each lemma's own.
   Slices of points in the walks. Conditions: each lemma's own.
   Squares of distances, in plain terms. Conditions: each lemma's own.
   The order of points, in plain terms. Conditions: each lemma's own.
   The walks of smallness of points. Conditions: none.
   The walk of the reference's points out of small numbers. Conditions: none.
   The walk of the statement on the order of points. Conditions: none.
   The statement on the order of points, for all arguments. Conditions: none. -/
import Derived.WalkKit
import Derived.ProofKit
import Derived.OpenShut
import Derived.ChangeOld
import Derived.Below
import Derived.Carry
import Derived.ChangeSlices
import Derived.Test.YtbadkjfjdkbgfaaGreatRows
import Derived.Test.YtbadkjfjdkbgfaaGreatQ7
set_option linter.unusedVariables false
set_option linter.unusedSimpArgs false
set_option linter.unusedSimpArgs false
set_option linter.unusedVariables false
set_option maxRecDepth 20000
namespace Go.Proofs.YtbadkjfjdkbgfaaGreat
open Go Go.PL Go.RL
set_option maxHeartbeats 4000000 in
theorem c_swarflaw07_root_t (x y : Int) (z : Nat) (hx0 : -32768 ≤ x) (hx1 : x < 32768) (hy0 : -32768 ≤ y) (hy1 : y < 32768) (hz : z < 65536) (hs : sqB (Rat.divInt (z : Int) ((0 + 1 : Nat) : Int)) = true) :
    Ret Tryz.prog 48 [.c (.int .i16 x), .c (.int .i16 y), .c (.int .u16 (z : Int))] (.e (.a (ratC (Rat.divInt x ((0 + 1 : Nat) : Int) + Rat.divInt y ((0 + 1 : Nat) : Int) * rtR (Rat.divInt (z : Int) ((0 + 1 : Nat) : Int))) ++ (ratC (0) ++ ratC (0))))) := by
  refine ret_of_body (md := {}) Tryz.func48 (by kernel_rfl) rfl ?_
  simp only [Tryz.f48, List.map_cons, List.map_nil, List.length_cons, List.length_nil, Nat.zero_add, Nat.reduceAdd, Nat.reduceSub, List.reduceReplicate, List.cons_append, List.nil_append]
  refine pwx_sr 1 [] (by rfl) (fun K1 hK1 => ?_)
  simp (disch := omega) only [go_sem]
  refine hK1 _ ?_
  clear hK1 K1
  refine pwx_sr 0 [] (by rfl) (fun K2 hK2 => ?_)
  refine rgnX_take 5 (fun K3 hK3 => ?_)
  simp (disch := omega) only [go_sem]
  refine ⟨_, c_swarfref03_Of_t x y z 0 0 0 (by omega) (by omega) (by omega) (by omega) (by omega) (by omega) (by omega) (by omega) hs, ?_⟩
  refine hK3 _ ?_
  simp (disch := omega) only [go_sem]
  refine hK2 _ ?_
  clear hK3 K3 hK2 K2
  refine pwp_ret ?_
  refine ⟨Or.inr rfl, ?_⟩
  simp (disch := omega) only [go_sem]
set_option maxHeartbeats 4000000 in
theorem c_swarflaw07_root_f (x y : Int) (z : Nat) (hx0 : -32768 ≤ x) (hx1 : x < 32768) (hy0 : -32768 ≤ y) (hy1 : y < 32768) (hz : z < 65536) (hs : sqB (Rat.divInt (z : Int) ((0 + 1 : Nat) : Int)) = false) :
    Ret Tryz.prog 48 [.c (.int .i16 x), .c (.int .i16 y), .c (.int .u16 (z : Int))] (.e (.a (ratC (Rat.divInt x ((0 + 1 : Nat) : Int)) ++ (ratC (r3B (Rat.divInt y ((0 + 1 : Nat) : Int)) (Rat.divInt (z : Int) ((0 + 1 : Nat) : Int))) ++ ratC (r3C (Rat.divInt y ((0 + 1 : Nat) : Int)) (Rat.divInt (z : Int) ((0 + 1 : Nat) : Int))))))) := by
  refine ret_of_body (md := {}) Tryz.func48 (by kernel_rfl) rfl ?_
  simp only [Tryz.f48, List.map_cons, List.map_nil, List.length_cons, List.length_nil, Nat.zero_add, Nat.reduceAdd, Nat.reduceSub, List.reduceReplicate, List.cons_append, List.nil_append]
  refine pwx_sr 1 [] (by rfl) (fun K1 hK1 => ?_)
  simp (disch := omega) only [go_sem]
  refine hK1 _ ?_
  clear hK1 K1
  refine pwx_sr 0 [] (by rfl) (fun K2 hK2 => ?_)
  refine rgnX_take 5 (fun K3 hK3 => ?_)
  simp (disch := omega) only [go_sem]
  refine ⟨_, c_swarfref03_Of_f x y z 0 0 0 (by omega) (by omega) (by omega) (by omega) (by omega) (by omega) (by omega) (by omega) hs, ?_⟩
  refine hK3 _ ?_
  simp (disch := omega) only [go_sem]
  refine hK2 _ ?_
  clear hK3 K3 hK2 K2
  refine pwp_ret ?_
  refine ⟨Or.inr rfl, ?_⟩
  simp (disch := omega) only [go_sem]
theorem ex_root_1_1_2 : Ret Tryz.prog 48 [.c (.int .i16 1), .c (.int .i16 1), .c (.int .u16 2)] (.e (.a (ratC (1) ++ (ratC (1) ++ ratC (2))))) := by
  have h := c_swarflaw07_root_f 1 1 2 (by omega) (by omega) (by omega) (by omega) (by omega) (by decide +kernel)
  have e0 : (Rat.divInt 1 ((0 + 1 : Nat) : Int)) = 1 := by decide +kernel
  have e1 : r3B (Rat.divInt 1 ((0 + 1 : Nat) : Int)) (Rat.divInt ((2 : Nat) : Int) ((0 + 1 : Nat) : Int)) = 1 := by decide +kernel
  have e2 : r3C (Rat.divInt 1 ((0 + 1 : Nat) : Int)) (Rat.divInt ((2 : Nat) : Int) ((0 + 1 : Nat) : Int)) = 2 := by decide +kernel
  rw [e1, e2, e0] at h
  exact h
theorem ex_root_3_0_0 : Ret Tryz.prog 48 [.c (.int .i16 3), .c (.int .i16 0), .c (.int .u16 0)] (.e (.a (ratC (3) ++ (ratC (0) ++ ratC (0))))) := by
  have h := c_swarflaw07_root_t 3 0 0 (by omega) (by omega) (by omega) (by omega) (by omega) (by decide +kernel)
  rw [show (Rat.divInt 3 ((0 + 1 : Nat) : Int) + Rat.divInt 0 ((0 + 1 : Nat) : Int) * rtR (Rat.divInt ((0 : Nat) : Int) ((0 + 1 : Nat) : Int))) = 3 from by decide +kernel] at h
  exact h
theorem ex_root_0_1_8 : Ret Tryz.prog 48 [.c (.int .i16 0), .c (.int .i16 1), .c (.int .u16 8)] (.e (.a (ratC (0) ++ (ratC (1) ++ ratC (8))))) := by
  have h := c_swarflaw07_root_f 0 1 8 (by omega) (by omega) (by omega) (by omega) (by omega) (by decide +kernel)
  have e0 : (Rat.divInt 0 ((0 + 1 : Nat) : Int)) = 0 := by decide +kernel
  have e1 : r3B (Rat.divInt 1 ((0 + 1 : Nat) : Int)) (Rat.divInt ((8 : Nat) : Int) ((0 + 1 : Nat) : Int)) = 1 := by decide +kernel
  have e2 : r3C (Rat.divInt 1 ((0 + 1 : Nat) : Int)) (Rat.divInt ((8 : Nat) : Int) ((0 + 1 : Nat) : Int)) = 8 := by decide +kernel
  rw [e1, e2, e0] at h
  exact h
theorem ex_root_0_0_0 : Ret Tryz.prog 48 [.c (.int .i16 0), .c (.int .i16 0), .c (.int .u16 0)] (.e (.a (ratC (0) ++ (ratC (0) ++ ratC (0))))) := by
  have h := c_swarflaw07_root_t 0 0 0 (by omega) (by omega) (by omega) (by omega) (by omega) (by decide +kernel)
  rw [show (Rat.divInt 0 ((0 + 1 : Nat) : Int) + Rat.divInt 0 ((0 + 1 : Nat) : Int) * rtR (Rat.divInt ((0 : Nat) : Int) ((0 + 1 : Nat) : Int))) = 0 from by decide +kernel] at h
  exact h
theorem ex_root_0_2_2 : Ret Tryz.prog 48 [.c (.int .i16 0), .c (.int .i16 2), .c (.int .u16 2)] (.e (.a (ratC (0) ++ (ratC (2) ++ ratC (2))))) := by
  have h := c_swarflaw07_root_f 0 2 2 (by omega) (by omega) (by omega) (by omega) (by omega) (by decide +kernel)
  have e0 : (Rat.divInt 0 ((0 + 1 : Nat) : Int)) = 0 := by decide +kernel
  have e1 : r3B (Rat.divInt 2 ((0 + 1 : Nat) : Int)) (Rat.divInt ((2 : Nat) : Int) ((0 + 1 : Nat) : Int)) = 2 := by decide +kernel
  have e2 : r3C (Rat.divInt 2 ((0 + 1 : Nat) : Int)) (Rat.divInt ((2 : Nat) : Int) ((0 + 1 : Nat) : Int)) = 2 := by decide +kernel
  rw [e1, e2, e0] at h
  exact h
theorem ex_root_0_1_2 : Ret Tryz.prog 48 [.c (.int .i16 0), .c (.int .i16 1), .c (.int .u16 2)] (.e (.a (ratC (0) ++ (ratC (1) ++ ratC (2))))) := by
  have h := c_swarflaw07_root_f 0 1 2 (by omega) (by omega) (by omega) (by omega) (by omega) (by decide +kernel)
  have e0 : (Rat.divInt 0 ((0 + 1 : Nat) : Int)) = 0 := by decide +kernel
  have e1 : r3B (Rat.divInt 1 ((0 + 1 : Nat) : Int)) (Rat.divInt ((2 : Nat) : Int) ((0 + 1 : Nat) : Int)) = 1 := by decide +kernel
  have e2 : r3C (Rat.divInt 1 ((0 + 1 : Nat) : Int)) (Rat.divInt ((2 : Nat) : Int) ((0 + 1 : Nat) : Int)) = 2 := by decide +kernel
  rw [e1, e2, e0] at h
  exact h
theorem ex_root_0_1_3 : Ret Tryz.prog 48 [.c (.int .i16 0), .c (.int .i16 1), .c (.int .u16 3)] (.e (.a (ratC (0) ++ (ratC (1) ++ ratC (3))))) := by
  have h := c_swarflaw07_root_f 0 1 3 (by omega) (by omega) (by omega) (by omega) (by omega) (by decide +kernel)
  have e0 : (Rat.divInt 0 ((0 + 1 : Nat) : Int)) = 0 := by decide +kernel
  have e1 : r3B (Rat.divInt 1 ((0 + 1 : Nat) : Int)) (Rat.divInt ((3 : Nat) : Int) ((0 + 1 : Nat) : Int)) = 1 := by decide +kernel
  have e2 : r3C (Rat.divInt 1 ((0 + 1 : Nat) : Int)) (Rat.divInt ((3 : Nat) : Int) ((0 + 1 : Nat) : Int)) = 3 := by decide +kernel
  rw [e1, e2, e0] at h
  exact h
theorem ex_root_5_2_2 : Ret Tryz.prog 48 [.c (.int .i16 5), .c (.int .i16 (-2)), .c (.int .u16 2)] (.e (.a (ratC (5) ++ (ratC ((-2)) ++ ratC (2))))) := by
  have h := c_swarflaw07_root_f 5 (-2) 2 (by omega) (by omega) (by omega) (by omega) (by omega) (by decide +kernel)
  have e0 : (Rat.divInt 5 ((0 + 1 : Nat) : Int)) = 5 := by decide +kernel
  have e1 : r3B (Rat.divInt (-2) ((0 + 1 : Nat) : Int)) (Rat.divInt ((2 : Nat) : Int) ((0 + 1 : Nat) : Int)) = (-2) := by decide +kernel
  have e2 : r3C (Rat.divInt (-2) ((0 + 1 : Nat) : Int)) (Rat.divInt ((2 : Nat) : Int) ((0 + 1 : Nat) : Int)) = 2 := by decide +kernel
  rw [e1, e2, e0] at h
  exact h
set_option maxHeartbeats 4000000 in
theorem c_swarflaw07_awake :
    Ret Tryz.prog 11 [] (.e (.c (.bool true))) := by
  refine ret_of_body (md := {}) Tryz.func11 (by kernel_rfl) rfl ?_
  simp only [Tryz.f11, List.map_cons, List.map_nil, List.length_cons, List.length_nil, Nat.zero_add, Nat.reduceAdd, Nat.reduceSub, List.reduceReplicate, List.cons_append, List.nil_append]
  refine pwx_sr 0 [] (by rfl) (fun K1 hK1 => ?_)
  simp (disch := omega) only [go_sem, ex_k1, ex_k2, ex_k3, ex_k4, ex_p1, ex_p2, ex_p3, ex_p4, ex_r1, ex_r2, ex_r3, ex_c1, ex_c2, ex_s1, ex_s2, ex_i0, ex_i1, ex_i3, ex_im, eq_self]
  refine hK1 _ ?_
  clear hK1 K1
  refine pwx_sr 1 [] (by rfl) (fun K2 hK2 => ?_)
  refine rgnX_take 1 (fun K3 hK3 => ?_)
  simp (disch := omega) only [go_sem, ex_k1, ex_k2, ex_k3, ex_k4, ex_p1, ex_p2, ex_p3, ex_p4, ex_r1, ex_r2, ex_r3, ex_c1, ex_c2, ex_s1, ex_s2, ex_i0, ex_i1, ex_i3, ex_im, eq_self]
  refine ⟨_, ex_root_1_1_2, ?_⟩
  refine hK3 _ ?_
  refine rgnX_take 1 (fun K4 hK4 => ?_)
  simp (disch := omega) only [go_sem, ex_k1, ex_k2, ex_k3, ex_k4, ex_p1, ex_p2, ex_p3, ex_p4, ex_r1, ex_r2, ex_r3, ex_c1, ex_c2, ex_s1, ex_s2, ex_i0, ex_i1, ex_i3, ex_im, eq_self]
  refine ⟨_, ex_root_3_0_0, ?_⟩
  refine hK4 _ ?_
  refine rgnX_take 1 (fun K5 hK5 => ?_)
  simp (disch := omega) only [go_sem, ex_k1, ex_k2, ex_k3, ex_k4, ex_p1, ex_p2, ex_p3, ex_p4, ex_r1, ex_r2, ex_r3, ex_c1, ex_c2, ex_s1, ex_s2, ex_i0, ex_i1, ex_i3, ex_im, eq_self]
  refine ⟨_, c_point_Make_t _ _ _ _ _ _ (by omega) (by decide), ?_⟩
  refine hK5 _ ?_
  simp (disch := omega) only [go_sem, ex_k1, ex_k2, ex_k3, ex_k4, ex_p1, ex_p2, ex_p3, ex_p4, ex_r1, ex_r2, ex_r3, ex_c1, ex_c2, ex_s1, ex_s2, ex_i0, ex_i1, ex_i3, ex_im, eq_self]
  refine hK2 _ ?_
  clear hK5 K5 hK4 K4 hK3 K3 hK2 K2
  refine pwx_sr 1 [] (by rfl) (fun K6 hK6 => ?_)
  refine rgnX_take 1 (fun K7 hK7 => ?_)
  simp (disch := omega) only [go_sem, ex_k1, ex_k2, ex_k3, ex_k4, ex_p1, ex_p2, ex_p3, ex_p4, ex_r1, ex_r2, ex_r3, ex_c1, ex_c2, ex_s1, ex_s2, ex_i0, ex_i1, ex_i3, ex_im, eq_self]
  refine ⟨_, ex_root_0_1_8, ?_⟩
  refine hK7 _ ?_
  refine rgnX_take 1 (fun K8 hK8 => ?_)
  simp (disch := omega) only [go_sem, ex_k1, ex_k2, ex_k3, ex_k4, ex_p1, ex_p2, ex_p3, ex_p4, ex_r1, ex_r2, ex_r3, ex_c1, ex_c2, ex_s1, ex_s2, ex_i0, ex_i1, ex_i3, ex_im, eq_self]
  refine ⟨_, ex_root_0_0_0, ?_⟩
  refine hK8 _ ?_
  refine rgnX_take 1 (fun K9 hK9 => ?_)
  simp (disch := omega) only [go_sem, ex_k1, ex_k2, ex_k3, ex_k4, ex_p1, ex_p2, ex_p3, ex_p4, ex_r1, ex_r2, ex_r3, ex_c1, ex_c2, ex_s1, ex_s2, ex_i0, ex_i1, ex_i3, ex_im, eq_self]
  refine ⟨_, c_point_Make_t _ _ _ _ _ _ (by omega) (by decide), ?_⟩
  refine hK9 _ ?_
  simp (disch := omega) only [go_sem, ex_k1, ex_k2, ex_k3, ex_k4, ex_p1, ex_p2, ex_p3, ex_p4, ex_r1, ex_r2, ex_r3, ex_c1, ex_c2, ex_s1, ex_s2, ex_i0, ex_i1, ex_i3, ex_im, eq_self]
  refine hK6 _ ?_
  clear hK9 K9 hK8 K8 hK7 K7 hK6 K6
  refine pwx_sr 1 [] (by rfl) (fun K10 hK10 => ?_)
  refine rgnX_take 1 (fun K11 hK11 => ?_)
  simp (disch := omega) only [go_sem, ex_k1, ex_k2, ex_k3, ex_k4, ex_p1, ex_p2, ex_p3, ex_p4, ex_r1, ex_r2, ex_r3, ex_c1, ex_c2, ex_s1, ex_s2, ex_i0, ex_i1, ex_i3, ex_im, eq_self]
  refine ⟨_, ex_root_0_2_2, ?_⟩
  refine hK11 _ ?_
  refine rgnX_take 1 (fun K12 hK12 => ?_)
  simp (disch := omega) only [go_sem, ex_k1, ex_k2, ex_k3, ex_k4, ex_p1, ex_p2, ex_p3, ex_p4, ex_r1, ex_r2, ex_r3, ex_c1, ex_c2, ex_s1, ex_s2, ex_i0, ex_i1, ex_i3, ex_im, eq_self]
  refine ⟨_, ex_root_0_0_0, ?_⟩
  refine hK12 _ ?_
  refine rgnX_take 1 (fun K13 hK13 => ?_)
  simp (disch := omega) only [go_sem, ex_k1, ex_k2, ex_k3, ex_k4, ex_p1, ex_p2, ex_p3, ex_p4, ex_r1, ex_r2, ex_r3, ex_c1, ex_c2, ex_s1, ex_s2, ex_i0, ex_i1, ex_i3, ex_im, eq_self]
  refine ⟨_, c_point_Make_t _ _ _ _ _ _ (by omega) (by decide), ?_⟩
  refine hK13 _ ?_
  simp (disch := omega) only [go_sem, ex_k1, ex_k2, ex_k3, ex_k4, ex_p1, ex_p2, ex_p3, ex_p4, ex_r1, ex_r2, ex_r3, ex_c1, ex_c2, ex_s1, ex_s2, ex_i0, ex_i1, ex_i3, ex_im, eq_self]
  refine hK10 _ ?_
  clear hK13 K13 hK12 K12 hK11 K11 hK10 K10
  refine pwx_sr 1 [] (by rfl) (fun K14 hK14 => ?_)
  refine rgnX_take 1 (fun K15 hK15 => ?_)
  simp (disch := omega) only [go_sem, ex_k1, ex_k2, ex_k3, ex_k4, ex_p1, ex_p2, ex_p3, ex_p4, ex_r1, ex_r2, ex_r3, ex_c1, ex_c2, ex_s1, ex_s2, ex_i0, ex_i1, ex_i3, ex_im, eq_self]
  refine ⟨_, ex_root_0_1_2, ?_⟩
  refine hK15 _ ?_
  refine rgnX_take 1 (fun K16 hK16 => ?_)
  simp (disch := omega) only [go_sem, ex_k1, ex_k2, ex_k3, ex_k4, ex_p1, ex_p2, ex_p3, ex_p4, ex_r1, ex_r2, ex_r3, ex_c1, ex_c2, ex_s1, ex_s2, ex_i0, ex_i1, ex_i3, ex_im, eq_self]
  refine ⟨_, ex_root_0_1_2, ?_⟩
  refine hK16 _ ?_
  refine rgnX_take 1 (fun K17 hK17 => ?_)
  simp (disch := omega) only [go_sem, ex_k1, ex_k2, ex_k3, ex_k4, ex_p1, ex_p2, ex_p3, ex_p4, ex_r1, ex_r2, ex_r3, ex_c1, ex_c2, ex_s1, ex_s2, ex_i0, ex_i1, ex_i3, ex_im, eq_self]
  refine ⟨_, c_point_Make_t _ _ _ _ _ _ (by omega) (by decide), ?_⟩
  refine hK17 _ ?_
  simp (disch := omega) only [go_sem, ex_k1, ex_k2, ex_k3, ex_k4, ex_p1, ex_p2, ex_p3, ex_p4, ex_r1, ex_r2, ex_r3, ex_c1, ex_c2, ex_s1, ex_s2, ex_i0, ex_i1, ex_i3, ex_im, eq_self]
  refine hK14 _ ?_
  clear hK17 K17 hK16 K16 hK15 K15 hK14 K14
  refine pwx_sr 1 [] (by rfl) (fun K18 hK18 => ?_)
  refine rgnX_take 1 (fun K19 hK19 => ?_)
  simp (disch := omega) only [go_sem, ex_k1, ex_k2, ex_k3, ex_k4, ex_p1, ex_p2, ex_p3, ex_p4, ex_r1, ex_r2, ex_r3, ex_c1, ex_c2, ex_s1, ex_s2, ex_i0, ex_i1, ex_i3, ex_im, eq_self]
  refine ⟨_, ex_root_0_1_2, ?_⟩
  refine hK19 _ ?_
  refine rgnX_take 1 (fun K20 hK20 => ?_)
  simp (disch := omega) only [go_sem, ex_k1, ex_k2, ex_k3, ex_k4, ex_p1, ex_p2, ex_p3, ex_p4, ex_r1, ex_r2, ex_r3, ex_c1, ex_c2, ex_s1, ex_s2, ex_i0, ex_i1, ex_i3, ex_im, eq_self]
  refine ⟨_, ex_root_0_1_3, ?_⟩
  refine hK20 _ ?_
  refine rgnX_take 1 (fun K21 hK21 => ?_)
  simp (disch := omega) only [go_sem, ex_k1, ex_k2, ex_k3, ex_k4, ex_p1, ex_p2, ex_p3, ex_p4, ex_r1, ex_r2, ex_r3, ex_c1, ex_c2, ex_s1, ex_s2, ex_i0, ex_i1, ex_i3, ex_im, eq_self]
  refine ⟨_, c_point_Make_f _ _ _ _ _ _ (by omega) (by decide), ?_⟩
  refine hK21 _ ?_
  simp (disch := omega) only [go_sem, ex_k1, ex_k2, ex_k3, ex_k4, ex_p1, ex_p2, ex_p3, ex_p4, ex_r1, ex_r2, ex_r3, ex_c1, ex_c2, ex_s1, ex_s2, ex_i0, ex_i1, ex_i3, ex_im, eq_self]
  refine hK18 _ ?_
  clear hK21 K21 hK20 K20 hK19 K19 hK18 K18
  refine pwp_seq ?_
  refine pwx_sr 0 [some 42, some 43, some 44, some 45, some 46, some 47, some 48, some 49, some 50, some 51, some 52, some 53, some 54, some 55, some 56, some 57, some 58, some 59] (by rfl) (fun K22 hK22 => ?_)
  simp (disch := omega) only [go_sem, ex_k1, ex_k2, ex_k3, ex_k4, ex_p1, ex_p2, ex_p3, ex_p4, ex_r1, ex_r2, ex_r3, ex_c1, ex_c2, ex_s1, ex_s2, ex_i0, ex_i1, ex_i3, ex_im, eq_self]
  refine hK22 _ ?_
  clear hK22 K22
  refine pwp_cond (b := false) (by rfl) (fun h => nomatch h) (fun _ => ?_)
  refine pwp_skip ?_
  refine n_then ?_
  refine pwx_sr 1 [] (by rfl) (fun K23 hK23 => ?_)
  refine rgnX_take 2 (fun K24 hK24 => ?_)
  simp (disch := omega) only [go_sem, ex_k1, ex_k2, ex_k3, ex_k4, ex_p1, ex_p2, ex_p3, ex_p4, ex_r1, ex_r2, ex_r3, ex_c1, ex_c2, ex_s1, ex_s2, ex_i0, ex_i1, ex_i3, ex_im, eq_self]
  refine ⟨_, c_point_OfGrid _ _ (by omega) (by omega) (by omega) (by omega), ?_⟩
  refine hK24 _ ?_
  simp (disch := omega) only [go_sem, ex_k1, ex_k2, ex_k3, ex_k4, ex_p1, ex_p2, ex_p3, ex_p4, ex_r1, ex_r2, ex_r3, ex_c1, ex_c2, ex_s1, ex_s2, ex_i0, ex_i1, ex_i3, ex_im, eq_self]
  refine hK23 _ ?_
  clear hK24 K24 hK23 K23
  refine pwx_sd Tryz.mixed 0 [some 62, some 63, some 64, some 65, some 66, some 67, some 68, some 69, some 70, some 71, some 72, some 73, some 74, some 75, some 76, some 77, some 78, some 79, some 80, some 81, some 82, some 83, some 84, some 85, some 86, some 87, some 88, some 89, some 0] (by rfl) [] (by kernel_rfl) (by simp) (fun K25 hK25 => ?_)
  refine rgnX_take 2 (fun K26 hK26 => ?_)
  simp (disch := omega) only [go_sem, ex_k1, ex_k2, ex_k3, ex_k4, ex_p1, ex_p2, ex_p3, ex_p4, ex_r1, ex_r2, ex_r3, ex_c1, ex_c2, ex_s1, ex_s2, ex_i0, ex_i1, ex_i3, ex_im, eq_self]
  refine ⟨_, c_point_X _ _ _ _ _, ?_⟩
  refine hK26 _ ?_
  refine rgnX_take 1 (fun K27 hK27 => ?_)
  simp (disch := omega) only [go_sem, ex_k1, ex_k2, ex_k3, ex_k4, ex_p1, ex_p2, ex_p3, ex_p4, ex_r1, ex_r2, ex_r3, ex_c1, ex_c2, ex_s1, ex_s2, ex_i0, ex_i1, ex_i3, ex_im, eq_self]
  refine ⟨_, ex_root_1_1_2, ?_⟩
  refine hK27 _ ?_
  refine rgnX_take 1 (fun K28 hK28 => ?_)
  simp (disch := omega) only [go_sem, ex_k1, ex_k2, ex_k3, ex_k4, ex_p1, ex_p2, ex_p3, ex_p4, ex_r1, ex_r2, ex_r3, ex_c1, ex_c2, ex_s1, ex_s2, ex_i0, ex_i1, ex_i3, ex_im, eq_self]
  refine ⟨_, c_swarfref03_Same _ _ _ _ _ _ (by omega), ?_⟩
  refine hK28 _ ?_
  refine rgnX_take 3 (fun K29 hK29 => ?_)
  simp (disch := omega) only [go_sem, ex_k1, ex_k2, ex_k3, ex_k4, ex_p1, ex_p2, ex_p3, ex_p4, ex_r1, ex_r2, ex_r3, ex_c1, ex_c2, ex_s1, ex_s2, ex_i0, ex_i1, ex_i3, ex_im, eq_self]
  first | refine ⟨_, c_point_Y _ _ _ _ _, ?_⟩ | skip
  refine hK29 _ ?_
  refine rgnX_take 1 (fun K30 hK30 => ?_)
  simp (disch := omega) only [go_sem, ex_k1, ex_k2, ex_k3, ex_k4, ex_p1, ex_p2, ex_p3, ex_p4, ex_r1, ex_r2, ex_r3, ex_c1, ex_c2, ex_s1, ex_s2, ex_i0, ex_i1, ex_i3, ex_im, eq_self]
  first | refine ⟨_, ex_root_3_0_0, ?_⟩ | skip
  refine hK30 _ ?_
  refine rgnX_take 1 (fun K31 hK31 => ?_)
  simp (disch := omega) only [go_sem, ex_k1, ex_k2, ex_k3, ex_k4, ex_p1, ex_p2, ex_p3, ex_p4, ex_r1, ex_r2, ex_r3, ex_c1, ex_c2, ex_s1, ex_s2, ex_i0, ex_i1, ex_i3, ex_im, eq_self]
  first | refine ⟨_, c_swarfref03_Same _ _ _ _ _ _ (by omega), ?_⟩ | skip
  refine hK31 _ ?_
  refine rgnX_take 5 (fun K32 hK32 => ?_)
  simp (disch := omega) only [go_sem, ex_k1, ex_k2, ex_k3, ex_k4, ex_p1, ex_p2, ex_p3, ex_p4, ex_r1, ex_r2, ex_r3, ex_c1, ex_c2, ex_s1, ex_s2, ex_i0, ex_i1, ex_i3, ex_im, eq_self]
  first | refine ⟨_, c_point_Equal _ _ _ _ _ _ _ _ _ _ (by omega) (by decide +kernel) (by decide +kernel), ?_⟩ | skip
  refine hK32 _ ?_
  refine rgnX_take 5 (fun K33 hK33 => ?_)
  simp (disch := omega) only [go_sem, ex_k1, ex_k2, ex_k3, ex_k4, ex_p1, ex_p2, ex_p3, ex_p4, ex_r1, ex_r2, ex_r3, ex_c1, ex_c2, ex_s1, ex_s2, ex_i0, ex_i1, ex_i3, ex_im, eq_self]
  first | refine ⟨_, c_point_Compare _ _ _ _ _ _ _ _ _ _ (by omega) (by decide +kernel) (by decide +kernel), ?_⟩ | skip
  refine hK33 _ ?_
  refine rgnX_take 5 (fun K34 hK34 => ?_)
  simp (disch := omega) only [go_sem, ex_k1, ex_k2, ex_k3, ex_k4, ex_p1, ex_p2, ex_p3, ex_p4, ex_r1, ex_r2, ex_r3, ex_c1, ex_c2, ex_s1, ex_s2, ex_i0, ex_i1, ex_i3, ex_im, eq_self]
  first | refine ⟨_, c_swarfref07_Vec _ _ (by omega) (by omega) (by omega) (by omega), ?_⟩ | skip
  refine hK34 _ ?_
  refine rgnX_take 1 (fun K35 hK35 => ?_)
  simp (disch := omega) only [go_sem, ex_k1, ex_k2, ex_k3, ex_k4, ex_p1, ex_p2, ex_p3, ex_p4, ex_r1, ex_r2, ex_r3, ex_c1, ex_c2, ex_s1, ex_s2, ex_i0, ex_i1, ex_i3, ex_im, eq_self]
  first | refine ⟨_, c_point_Square _ _ _ _ _ _ _ (by omega), ?_⟩ | skip
  refine hK35 _ ?_
  refine rgnX_take 1 (fun K36 hK36 => ?_)
  simp (disch := omega) only [go_sem, ex_k1, ex_k2, ex_k3, ex_k4, ex_p1, ex_p2, ex_p3, ex_p4, ex_r1, ex_r2, ex_r3, ex_c1, ex_c2, ex_s1, ex_s2, ex_i0, ex_i1, ex_i3, ex_im, eq_self]
  first | refine ⟨_, ex_root_5_2_2, ?_⟩ | skip
  refine hK36 _ ?_
  refine rgnX_take 1 (fun K37 hK37 => ?_)
  simp (disch := omega) only [go_sem, ex_k1, ex_k2, ex_k3, ex_k4, ex_p1, ex_p2, ex_p3, ex_p4, ex_r1, ex_r2, ex_r3, ex_c1, ex_c2, ex_s1, ex_s2, ex_i0, ex_i1, ex_i3, ex_im, eq_self]
  first | refine ⟨_, c_swarfref03_Same _ _ _ _ _ _ (by omega), ?_⟩ | skip
  refine hK37 _ ?_
  simp (disch := omega) only [go_sem, ex_k1, ex_k2, ex_k3, ex_k4, ex_p1, ex_p2, ex_p3, ex_p4, ex_r1, ex_r2, ex_r3, ex_c1, ex_c2, ex_s1, ex_s2, ex_i0, ex_i1, ex_i3, ex_im, eq_self]
  refine hK25 _ ?_
  clear hK37 K37 hK36 K36 hK35 K35 hK34 K34 hK33 K33 hK32 K32 hK31 K31 hK30 K30 hK29 K29 hK28 K28 hK27 K27 hK26 K26 hK25 K25
  refine pwp_ret ?_
  refine ⟨Or.inr rfl, ?_⟩
  simp (disch := omega) only [go_sem, ex_k1, ex_k2, ex_k3, ex_k4, ex_p1, ex_p2, ex_p3, ex_p4, ex_r1, ex_r2, ex_r3, ex_c1, ex_c2, ex_s1, ex_s2, ex_i0, ex_i1, ex_i3, ex_im, eq_self]
  all_goals skip

end Go.Proofs.YtbadkjfjdkbgfaaGreat

set_option linter.unusedSimpArgs false
namespace Go.PL
open Go.ChangeShapes Go.WideShapes Go.RowKit

/-- All memory of a world. -/
def GW (w : World) : GMem := fun b o => w.cell? ⟨b, o, none⟩
theorem GW_agree (w : World) : Agree (GW w) w := fun _ _ _ h => h
/-- A slice's address has no spot. -/
def Spot (v : Value) : Prop := ∀ a len cap, v = .slice (some a) len cap → a.spot = none

section
variable {H : Type} {enc : TypeId × Value → H} {P : Program} {w : World} {base : Nat} {spare : Nat → Bool} {held : Bool} {fuel : Nat} {t : TypeId} {cs : List Value} {x : DataW H × List MemPlace}

theorem op_bool (ht : P.underlying t = some .bool) (h : DataW.trod enc P w base spare held fuel t cs = some x) : ∃ b, All2 (IRep (GW w)) cs [.bool b] := by
  obtain ⟨b, rfl, _⟩ := DataW.trod_bool ht h
  exact ⟨b, .cons (.bool b) .nil⟩
theorem op_int {k : IntKind} (ht : P.underlying t = some (.int k)) (h : DataW.trod enc P w base spare held fuel t cs = some x) : ∃ n, (Lit.int k n).wf = true ∧ All2 (IRep (GW w)) cs [.int k n] := by
  obtain ⟨n, rfl, _, hw⟩ := DataW.trod_int ht h
  exact ⟨n, hw, .cons (.int k n) .nil⟩
theorem wf_u32 {n : Int} (h : (Lit.int .u32 n).wf = true) : 0 ≤ n ∧ n < 4294967296 := by
  simp only [Lit.wf, Bool.and_eq_true, decide_eq_true_eq] at h
  obtain ⟨h1, h2⟩ := h
  have e1 : IntKind.u32.min = 0 := by decide
  have e2 : IntKind.u32.max = 4294967295 := by decide
  rw [e1] at h1; rw [e2] at h2
  exact ⟨h1, by omega⟩
theorem wf_i64 {n : Int} (h : (Lit.int .i64 n).wf = true) : -9223372036854775808 ≤ n ∧ n < 9223372036854775808 := by
  simp only [Lit.wf, Bool.and_eq_true, decide_eq_true_eq] at h
  obtain ⟨h1, h2⟩ := h
  have e1 : IntKind.i64.min = -9223372036854775808 := by decide
  have e2 : IntKind.i64.max = 9223372036854775807 := by decide
  rw [e1] at h1; rw [e2] at h2
  exact ⟨h1, by omega⟩
theorem wf_i16 {n : Int} (h : (Lit.int .i16 n).wf = true) : -32768 ≤ n ∧ n < 32768 := by
  simp only [Lit.wf, Bool.and_eq_true, decide_eq_true_eq] at h
  obtain ⟨h1, h2⟩ := h
  have e1 : IntKind.i16.min = -32768 := by decide
  have e2 : IntKind.i16.max = 32767 := by decide
  rw [e1] at h1; rw [e2] at h2
  exact ⟨h1, by omega⟩
theorem wf_u16 {n : Int} (h : (Lit.int .u16 n).wf = true) : 0 ≤ n ∧ n < 65536 := by
  simp only [Lit.wf, Bool.and_eq_true, decide_eq_true_eq] at h
  obtain ⟨h1, h2⟩ := h
  have e1 : IntKind.u16.min = 0 := by decide
  have e2 : IntKind.u16.max = 65535 := by decide
  rw [e1] at h1; rw [e2] at h2
  exact ⟨h1, by omega⟩
theorem wf_u8 {n : Int} (h : (Lit.int .u8 n).wf = true) : 0 ≤ n ∧ n < 256 := by
  simp only [Lit.wf, Bool.and_eq_true, decide_eq_true_eq] at h
  obtain ⟨h1, h2⟩ := h
  have e1 : IntKind.u8.min = 0 := by decide
  have e2 : IntKind.u8.max = 255 := by decide
  rw [e1] at h1; rw [e2] at h2
  exact ⟨h1, by omega⟩
theorem op_u32s {e : TypeId} (ht : P.underlying t = some (.slice e)) (he : P.underlying e = some (.int .u32)) (hc : P.cellsOf e = 1) (hs : ∀ v ∈ cs, Spot v)
    (h : DataW.trod enc P w base spare held fuel t cs = some x) : ∃ l : List Nat, All2 (IRep (GW w)) cs [lC l] := by
  rcases open_ints ht he hc h with ⟨rfl, _⟩ | ⟨a, len, cap, zs, rfl, _, hl, _, hz, _, hcell, hw⟩
  · exact ⟨[], .cons .nil .nil⟩
  · have hsp : a.spot = none := hs _ (by simp) a len cap rfl
    have hlen : len ≤ zs.length := by rw [hz]; split <;> omega
    obtain ⟨b, off, sp⟩ := a
    simp only at hsp
    subst hsp
    refine ⟨(zs.take len).map Int.toNat, .cons ?_ .nil⟩
    rw [lC_eq]
    have hll : ((zs.take len).map Int.toNat).length = len := by simp; omega
    rw [hll]
    have hadd : ∀ i, (⟨b, off, none⟩ : Addr).add i = ⟨b, off + i, none⟩ := fun i => by
      unfold Addr.add
      split
      · rename_i h0; rw [h0]; rfl
      · rfl
    have key : ∀ i, i < len → zs.getD i 0 = (((zs.getD i 0).toNat : Nat) : Int) := fun i hi => by
      have hm : zs.getD i 0 ∈ zs := by
        rw [List.getD_eq_getElem?_getD, List.getElem?_eq_getElem (show i < zs.length by omega)]
        exact List.getElem_mem _
      have := wf_u32 (hw _ hm)
      omega
    refine .sl b off len cap _ (fun i => .int .u32 (zs.getD i 0)) hl (fun i hi => ?_) (fun i hi => ?_)
    · simp only [u32s, List.length_map, List.length_take] at hi
      have := hcell i (by omega)
      rw [hadd] at this
      exact this
    · simp only [u32s, List.length_map, List.length_take] at hi
      have hg : (u32s ((zs.take len).map Int.toNat))[i]'(by simpa [u32s] using hi) = .int .u32 (zs.getD i 0) := by
        rw [key i (by omega)]
        simp [u32s, List.getD_eq_getElem?_getD, List.getElem?_eq_getElem (show i < zs.length by omega)]
      rw [hg]
      exact .int _ _
theorem op_piece {R : Value → PC → Prop} {off n m : Nat} {A B : List PC} (hm : off + n = m) (h1 : All2 R ((cs.drop off).take n) A) (h2 : All2 R (cs.drop m) B) : All2 R (cs.drop off) (A ++ B) := by
  have := h1.append h2
  rw [← hm, ← List.drop_drop, List.take_append_drop] at this
  exact this
theorem op_end {R : Value → PC → Prop} {n : Nat} (h : cs.length = n) : All2 R (cs.drop n) [] := by
  rw [← h, List.drop_length]; exact .nil
theorem sp_piece {off n : Nat} (h : ∀ v ∈ cs, Spot v) : ∀ v ∈ (cs.drop off).take n, Spot v := fun v hv => h v (List.mem_of_mem_drop (List.mem_of_mem_take hv))
/-- A field of a struct. -/
theorem op_field {fs : Array Field} (ht : P.underlying t = some (.struct fs)) (h : DataW.trod enc P w base spare held fuel t cs = some x) {i : Nat} {f : Field} (hi : fs[i]? = some f) {n : Nat} (hn : P.cellsOf f.type = n) :
    ∃ fuel' y, DataW.trod enc P w base spare held fuel' f.type ((cs.drop f.offset).take n) = some y := by
  obtain ⟨xs, m, _, _, _, hlen, hf⟩ := DataW.trod_struct ht h
  have hlt : i < xs.length := by
    rw [hlen]
    rcases Nat.lt_or_ge i fs.size with c | c
    · exact c
    · rw [Array.getElem?_eq_none c] at hi; cases hi
  have := hf i f hi
  rw [List.getElem?_eq_getElem hlt, hn] at this
  exact ⟨m, _, this⟩
theorem op_elem {e : TypeId} {k : Nat} (ht : P.underlying t = some (.array k e)) (h : DataW.trod enc P w base spare held fuel t cs = some x) {i : Nat} (hi : i < k) {n : Nat} (hn : P.cellsOf e = n) {off : Nat} (ho : i * n = off) :
    ∃ fuel' y, DataW.trod enc P w base spare held fuel' e ((cs.drop off).take n) = some y := by
  obtain ⟨xs, m, _, _, _, hlen, hf⟩ := DataW.trod_array ht h
  have := hf i hi
  rw [List.getElem?_eq_getElem (by omega), hn, ho] at this
  exact ⟨m, _, this⟩
theorem op_len {fs : Array Field} (ht : P.underlying t = some (.struct fs)) (h : DataW.trod enc P w base spare held fuel t cs = some x) {n : Nat} (hn : P.cellsOf t = n) : cs.length = n := by
  obtain ⟨xs, m, _, _, hl, _, _⟩ := DataW.trod_struct ht h
  rw [hl, hn]
theorem op_lenA {e : TypeId} {k : Nat} (ht : P.underlying t = some (.array k e)) (h : DataW.trod enc P w base spare held fuel t cs = some x) {n : Nat} (hn : P.cellsOf t = n) : cs.length = n := by
  obtain ⟨xs, m, _, _, hl, _, _⟩ := DataW.trod_array ht h
  rw [hl, hn]
end

theorem spot_cell {P : Program} {w : World} {r : Reach} {base : Nat} {t : TypeId} {v : Value} (h : Cell.okWide P w r base t v) : Spot v := by
  rintro a len cap rfl
  unfold Cell.okWide at h
  split at h
  all_goals first | (rename_i hv; cases hv; done) | (rename_i hv _; cases hv; done) | skip
  · unfold Cell.ok at h
    split at h <;> first | (rename_i hv; cases hv; done) | skip
    · rename_i hv
      simp only [Value.slice.injEq, Option.some.injEq] at hv
      obtain ⟨rfl, rfl, rfl⟩ := hv
      exact h.2.2.2.1
    · exact h.elim
theorem spot_agg {P : Program} {w : World} {r : Reach} {base : Nat} {t : TypeId} {fs : Array Field} (ht : P.underlying t = some (.struct fs)) {v : Value} (h : Value.okWide P w r base t v) : ∃ cs, v = .agg cs ∧ ∀ u ∈ cs.toList, Spot u := by
  unfold Value.okWide at h
  rw [ht] at h
  obtain ⟨cs, rfl, _, ts, _, _, hr⟩ := h
  refine ⟨cs, rfl, fun u hu => ?_⟩
  obtain ⟨i, hi⟩ := List.getElem?_of_mem hu
  obtain ⟨q, _, hq⟩ := hr i u (by rw [← Array.getElem?_toList]; exact hi)
  exact spot_cell hq
theorem spot_aggA {P : Program} {w : World} {r : Reach} {base : Nat} {t : TypeId} {e : TypeId} {k : Nat} (ht : P.underlying t = some (.array k e)) {v : Value} (h : Value.okWide P w r base t v) : ∃ cs, v = .agg cs ∧ ∀ u ∈ cs.toList, Spot u := by
  unfold Value.okWide at h
  rw [ht] at h
  obtain ⟨cs, rfl, _, ts, _, _, hr⟩ := h
  refine ⟨cs, rfl, fun u hu => ?_⟩
  obtain ⟨i, hi⟩ := List.getElem?_of_mem hu
  obtain ⟨q, _, hq⟩ := hr i u (by rw [← Array.getElem?_toList]; exact hi)
  exact spot_cell hq
/-- A struct's value stands for its cells. -/
theorem op_agg {G : GMem} {cs : Array Value} {ps : List PC} (h : All2 (IRep G) cs.toList ps) : RepE G (fun _ => 0) (fun _ => False) (.agg cs) (.a ps) := ⟨cs, rfl, h.mono fun _ _ => RepC.of_irep⟩
/-- What a law that returns true tells its row. -/
theorem law_true {P : Program} {f : FuncId} {args : List PE} (h : Ret P f args (.e (.c (.bool true)))) {w : World} {vs : Array Value} (hv : All2 (RepE (GW w) (fun _ => 0) (fun _ => False)) vs.toList args) :
    Calls P f vs w fun e w' => e = .returned (.bool true) ∧ Below w.heap.size w w' := by
  refine (h.2 (GW w) w vs (GW_agree w) hv).mono ?_
  rintro e w' ⟨v, G', rfl, hr, _, _, _, hb⟩
  have hr' : IRep G' v (.bool true) := hr
  cases hr'
  exact ⟨rfl, hb⟩
end Go.PL

set_option linter.unusedSimpArgs false
set_option linter.unusedVariables false
set_option maxRecDepth 20000
namespace Go.Proofs.YtbadkjfjdkbgfaaGreat
open Go Go.PL
open Go.ChangeShapes Go.WideShapes Go.RowKit
theorem op24 {H : Type} {enc : TypeId × Value → H} {w : World} {base : Nat} {spare : Nat → Bool} {held : Bool} {fuel : Nat} {cs : List Value} {x : DataW H × List MemPlace} (h : DataW.trod enc Tryz.prog w base spare held fuel 24 cs = some x) (hs : ∀ v ∈ cs, Spot v) :
    ∃ c0 : Bool, ∃ c1 : List Nat, All2 (IRep (GW w)) cs [.bool c0, lC c1] := by
  obtain ⟨f0, y0, h0⟩ := op_field Tryz.underlying24 h (i := 0) rfl (n := 1) (by kernel_rfl)
  obtain ⟨c0, r0⟩ := op_bool Tryz.underlying4 h0
  obtain ⟨f1, y1, h1⟩ := op_field Tryz.underlying24 h (i := 1) rfl (n := 1) (by kernel_rfl)
  obtain ⟨c1, r1⟩ := op_u32s Tryz.underlying22 Tryz.underlying142 (by kernel_rfl) (sp_piece hs) h1
  have r := op_piece (off := 0) rfl r0 (op_piece (off := 1) rfl r1 (op_end (op_len Tryz.underlying24 h (by kernel_rfl))))
  exact ⟨c0, c1, r⟩

theorem op26 {H : Type} {enc : TypeId × Value → H} {w : World} {base : Nat} {spare : Nat → Bool} {held : Bool} {fuel : Nat} {cs : List Value} {x : DataW H × List MemPlace} (h : DataW.trod enc Tryz.prog w base spare held fuel 26 cs = some x) (hs : ∀ v ∈ cs, Spot v) :
    ∃ c0 : Bool, ∃ c1 : List Nat, ∃ c2 : Bool, ∃ c3 : List Nat, All2 (IRep (GW w)) cs [.bool c0, lC c1, .bool c2, lC c3] := by
  obtain ⟨f0, y0, h0⟩ := op_field Tryz.underlying26 h (i := 0) rfl (n := 2) (by kernel_rfl)
  obtain ⟨c0, c1, r0⟩ := op24 h0 (sp_piece hs)
  obtain ⟨f1, y1, h1⟩ := op_field Tryz.underlying26 h (i := 1) rfl (n := 2) (by kernel_rfl)
  obtain ⟨c2, c3, r1⟩ := op24 h1 (sp_piece hs)
  have r := op_piece (off := 0) rfl r0 (op_piece (off := 2) rfl r1 (op_end (op_len Tryz.underlying26 h (by kernel_rfl))))
  exact ⟨c0, c1, c2, c3, r⟩

theorem op28 {H : Type} {enc : TypeId × Value → H} {w : World} {base : Nat} {spare : Nat → Bool} {held : Bool} {fuel : Nat} {cs : List Value} {x : DataW H × List MemPlace} (h : DataW.trod enc Tryz.prog w base spare held fuel 28 cs = some x) (hs : ∀ v ∈ cs, Spot v) :
    ∃ c0 : Bool, ∃ c1 : List Nat, ∃ c2 : Bool, ∃ c3 : List Nat, ∃ c4 : Bool, ∃ c5 : List Nat, ∃ c6 : Bool, ∃ c7 : List Nat, ∃ c8 : Bool, ∃ c9 : List Nat, ∃ c10 : Bool, ∃ c11 : List Nat, All2 (IRep (GW w)) cs [.bool c0, lC c1, .bool c2, lC c3, .bool c4, lC c5, .bool c6, lC c7, .bool c8, lC c9, .bool c10, lC c11] := by
  obtain ⟨f0, y0, h0⟩ := op_field Tryz.underlying28 h (i := 0) rfl (n := 4) (by kernel_rfl)
  obtain ⟨c0, c1, c2, c3, r0⟩ := op26 h0 (sp_piece hs)
  obtain ⟨f1, y1, h1⟩ := op_field Tryz.underlying28 h (i := 1) rfl (n := 4) (by kernel_rfl)
  obtain ⟨c4, c5, c6, c7, r1⟩ := op26 h1 (sp_piece hs)
  obtain ⟨f2, y2, h2⟩ := op_field Tryz.underlying28 h (i := 2) rfl (n := 4) (by kernel_rfl)
  obtain ⟨c8, c9, c10, c11, r2⟩ := op26 h2 (sp_piece hs)
  have r := op_piece (off := 0) rfl r0 (op_piece (off := 4) rfl r1 (op_piece (off := 8) rfl r2 (op_end (op_len Tryz.underlying28 h (by kernel_rfl)))))
  exact ⟨c0, c1, c2, c3, c4, c5, c6, c7, c8, c9, c10, c11, r⟩

theorem op32 {H : Type} {enc : TypeId × Value → H} {w : World} {base : Nat} {spare : Nat → Bool} {held : Bool} {fuel : Nat} {cs : List Value} {x : DataW H × List MemPlace} (h : DataW.trod enc Tryz.prog w base spare held fuel 32 cs = some x) (hs : ∀ v ∈ cs, Spot v) :
    ∃ c0 : Bool, ∃ c1 : List Nat, ∃ c2 : Bool, ∃ c3 : List Nat, ∃ c4 : Bool, ∃ c5 : List Nat, ∃ c6 : Bool, ∃ c7 : List Nat, ∃ c8 : Bool, ∃ c9 : List Nat, ∃ c10 : Bool, ∃ c11 : List Nat, ∃ c12 : Bool, ∃ c13 : List Nat, ∃ c14 : Bool, ∃ c15 : List Nat, ∃ c16 : Bool, ∃ c17 : List Nat, ∃ c18 : Bool, ∃ c19 : List Nat, All2 (IRep (GW w)) cs [.bool c0, lC c1, .bool c2, lC c3, .bool c4, lC c5, .bool c6, lC c7, .bool c8, lC c9, .bool c10, lC c11, .bool c12, lC c13, .bool c14, lC c15, .bool c16, lC c17, .bool c18, lC c19] := by
  obtain ⟨f0, y0, h0⟩ := op_field Tryz.underlying32 h (i := 0) rfl (n := 4) (by kernel_rfl)
  obtain ⟨c0, c1, c2, c3, r0⟩ := op26 h0 (sp_piece hs)
  obtain ⟨f1, y1, h1⟩ := op_field Tryz.underlying32 h (i := 1) rfl (n := 4) (by kernel_rfl)
  obtain ⟨c4, c5, c6, c7, r1⟩ := op26 h1 (sp_piece hs)
  obtain ⟨f2, y2, h2⟩ := op_field Tryz.underlying32 h (i := 2) rfl (n := 4) (by kernel_rfl)
  obtain ⟨c8, c9, c10, c11, r2⟩ := op26 h2 (sp_piece hs)
  obtain ⟨f3, y3, h3⟩ := op_field Tryz.underlying32 h (i := 3) rfl (n := 4) (by kernel_rfl)
  obtain ⟨c12, c13, c14, c15, r3⟩ := op26 h3 (sp_piece hs)
  obtain ⟨f4, y4, h4⟩ := op_field Tryz.underlying32 h (i := 4) rfl (n := 4) (by kernel_rfl)
  obtain ⟨c16, c17, c18, c19, r4⟩ := op26 h4 (sp_piece hs)
  have r := op_piece (off := 0) rfl r0 (op_piece (off := 4) rfl r1 (op_piece (off := 8) rfl r2 (op_piece (off := 12) rfl r3 (op_piece (off := 16) rfl r4 (op_end (op_len Tryz.underlying32 h (by kernel_rfl)))))))
  exact ⟨c0, c1, c2, c3, c4, c5, c6, c7, c8, c9, c10, c11, c12, c13, c14, c15, c16, c17, c18, c19, r⟩

theorem op42 {H : Type} {enc : TypeId × Value → H} {w : World} {base : Nat} {spare : Nat → Bool} {held : Bool} {fuel : Nat} {cs : List Value} {x : DataW H × List MemPlace} (h : DataW.trod enc Tryz.prog w base spare held fuel 42 cs = some x) (hs : ∀ v ∈ cs, Spot v) :
    ∃ c0 : Bool, ∃ c1 : List Nat, ∃ c2 : Bool, ∃ c3 : List Nat, ∃ c4 : Bool, ∃ c5 : List Nat, ∃ c6 : Bool, ∃ c7 : List Nat, All2 (IRep (GW w)) cs [.bool c0, lC c1, .bool c2, lC c3, .bool c4, lC c5, .bool c6, lC c7] := by
  obtain ⟨f0, y0, h0⟩ := op_field Tryz.underlying42 h (i := 0) rfl (n := 4) (by kernel_rfl)
  obtain ⟨c0, c1, c2, c3, r0⟩ := op26 h0 (sp_piece hs)
  obtain ⟨f1, y1, h1⟩ := op_field Tryz.underlying42 h (i := 1) rfl (n := 4) (by kernel_rfl)
  obtain ⟨c4, c5, c6, c7, r1⟩ := op26 h1 (sp_piece hs)
  have r := op_piece (off := 0) rfl r0 (op_piece (off := 4) rfl r1 (op_end (op_len Tryz.underlying42 h (by kernel_rfl))))
  exact ⟨c0, c1, c2, c3, c4, c5, c6, c7, r⟩

theorem op60 {H : Type} {enc : TypeId × Value → H} {w : World} {base : Nat} {spare : Nat → Bool} {held : Bool} {fuel : Nat} {cs : List Value} {x : DataW H × List MemPlace} (h : DataW.trod enc Tryz.prog w base spare held fuel 60 cs = some x) (hs : ∀ v ∈ cs, Spot v) :
    ∃ c0 : Int, ∃ c1 : Int, (Lit.int .i64 c0).wf = true ∧ (Lit.int .i64 c1).wf = true ∧ All2 (IRep (GW w)) cs [.int .i64 c0, .int .i64 c1] := by
  obtain ⟨f0, y0, h0⟩ := op_field Tryz.underlying60 h (i := 0) rfl (n := 1) (by kernel_rfl)
  obtain ⟨c0, q0, r0⟩ := op_int Tryz.underlying2 h0
  obtain ⟨f1, y1, h1⟩ := op_field Tryz.underlying60 h (i := 1) rfl (n := 1) (by kernel_rfl)
  obtain ⟨c1, q1, r1⟩ := op_int Tryz.underlying2 h1
  have r := op_piece (off := 0) rfl r0 (op_piece (off := 1) rfl r1 (op_end (op_len Tryz.underlying60 h (by kernel_rfl))))
  exact ⟨c0, c1, q0, q1, r⟩

theorem op53 {H : Type} {enc : TypeId × Value → H} {w : World} {base : Nat} {spare : Nat → Bool} {held : Bool} {fuel : Nat} {cs : List Value} {x : DataW H × List MemPlace} (h : DataW.trod enc Tryz.prog w base spare held fuel 53 cs = some x) (hs : ∀ v ∈ cs, Spot v) :
    ∃ c0 : Int, ∃ c1 : Int, ∃ c2 : Int, ∃ c3 : Int, ∃ c4 : Int, ∃ c5 : Int, (Lit.int .i16 c0).wf = true ∧ (Lit.int .i16 c1).wf = true ∧ (Lit.int .i16 c2).wf = true ∧ (Lit.int .i16 c3).wf = true ∧ (Lit.int .u16 c4).wf = true ∧ (Lit.int .u8 c5).wf = true ∧ All2 (IRep (GW w)) cs [.int .i16 c0, .int .i16 c1, .int .i16 c2, .int .i16 c3, .int .u16 c4, .int .u8 c5] := by
  obtain ⟨f0, y0, h0⟩ := op_field Tryz.underlying53 h (i := 0) rfl (n := 1) (by kernel_rfl)
  obtain ⟨c0, q0, r0⟩ := op_int Tryz.underlying50 h0
  obtain ⟨f1, y1, h1⟩ := op_field Tryz.underlying53 h (i := 1) rfl (n := 1) (by kernel_rfl)
  obtain ⟨c1, q1, r1⟩ := op_int Tryz.underlying50 h1
  obtain ⟨f2, y2, h2⟩ := op_field Tryz.underlying53 h (i := 2) rfl (n := 1) (by kernel_rfl)
  obtain ⟨c2, q2, r2⟩ := op_int Tryz.underlying50 h2
  obtain ⟨f3, y3, h3⟩ := op_field Tryz.underlying53 h (i := 3) rfl (n := 1) (by kernel_rfl)
  obtain ⟨c3, q3, r3⟩ := op_int Tryz.underlying50 h3
  obtain ⟨f4, y4, h4⟩ := op_field Tryz.underlying53 h (i := 4) rfl (n := 1) (by kernel_rfl)
  obtain ⟨c4, q4, r4⟩ := op_int Tryz.underlying51 h4
  obtain ⟨f5, y5, h5⟩ := op_field Tryz.underlying53 h (i := 5) rfl (n := 1) (by kernel_rfl)
  obtain ⟨c5, q5, r5⟩ := op_int Tryz.underlying5 h5
  have r := op_piece (off := 0) rfl r0 (op_piece (off := 1) rfl r1 (op_piece (off := 2) rfl r2 (op_piece (off := 3) rfl r3 (op_piece (off := 4) rfl r4 (op_piece (off := 5) rfl r5 (op_end (op_len Tryz.underlying53 h (by kernel_rfl))))))))
  exact ⟨c0, c1, c2, c3, c4, c5, q0, q1, q2, q3, q4, q5, r⟩

theorem op54 {H : Type} {enc : TypeId × Value → H} {w : World} {base : Nat} {spare : Nat → Bool} {held : Bool} {fuel : Nat} {cs : List Value} {x : DataW H × List MemPlace} (h : DataW.trod enc Tryz.prog w base spare held fuel 54 cs = some x) (hs : ∀ v ∈ cs, Spot v) :
    ∃ c0 : Int, ∃ c1 : Int, ∃ c2 : Int, ∃ c3 : Int, ∃ c4 : Int, ∃ c5 : Int, ∃ c6 : Int, ∃ c7 : Int, ∃ c8 : Int, ∃ c9 : Int, ∃ c10 : Int, ∃ c11 : Int, ∃ c12 : Int, ∃ c13 : Int, ∃ c14 : Int, ∃ c15 : Int, ∃ c16 : Int, ∃ c17 : Int, (Lit.int .i16 c0).wf = true ∧ (Lit.int .i16 c1).wf = true ∧ (Lit.int .i16 c2).wf = true ∧ (Lit.int .i16 c3).wf = true ∧ (Lit.int .u16 c4).wf = true ∧ (Lit.int .u8 c5).wf = true ∧ (Lit.int .i16 c6).wf = true ∧ (Lit.int .i16 c7).wf = true ∧ (Lit.int .i16 c8).wf = true ∧ (Lit.int .i16 c9).wf = true ∧ (Lit.int .u16 c10).wf = true ∧ (Lit.int .u8 c11).wf = true ∧ (Lit.int .i16 c12).wf = true ∧ (Lit.int .i16 c13).wf = true ∧ (Lit.int .i16 c14).wf = true ∧ (Lit.int .i16 c15).wf = true ∧ (Lit.int .u16 c16).wf = true ∧ (Lit.int .u8 c17).wf = true ∧ All2 (IRep (GW w)) cs [.int .i16 c0, .int .i16 c1, .int .i16 c2, .int .i16 c3, .int .u16 c4, .int .u8 c5, .int .i16 c6, .int .i16 c7, .int .i16 c8, .int .i16 c9, .int .u16 c10, .int .u8 c11, .int .i16 c12, .int .i16 c13, .int .i16 c14, .int .i16 c15, .int .u16 c16, .int .u8 c17] := by
  obtain ⟨f0, y0, h0⟩ := op_elem Tryz.underlying54 h (i := 0) (by omega) (n := 6) (by kernel_rfl) (off := 0) rfl
  obtain ⟨c0, c1, c2, c3, c4, c5, q0_0, q0_1, q0_2, q0_3, q0_4, q0_5, r0⟩ := op53 h0 (sp_piece hs)
  obtain ⟨f1, y1, h1⟩ := op_elem Tryz.underlying54 h (i := 1) (by omega) (n := 6) (by kernel_rfl) (off := 6) rfl
  obtain ⟨c6, c7, c8, c9, c10, c11, q1_0, q1_1, q1_2, q1_3, q1_4, q1_5, r1⟩ := op53 h1 (sp_piece hs)
  obtain ⟨f2, y2, h2⟩ := op_elem Tryz.underlying54 h (i := 2) (by omega) (n := 6) (by kernel_rfl) (off := 12) rfl
  obtain ⟨c12, c13, c14, c15, c16, c17, q2_0, q2_1, q2_2, q2_3, q2_4, q2_5, r2⟩ := op53 h2 (sp_piece hs)
  have r := op_piece (off := 0) rfl r0 (op_piece (off := 6) rfl r1 (op_piece (off := 12) rfl r2 (op_end (op_lenA Tryz.underlying54 h (by kernel_rfl)))))
  exact ⟨c0, c1, c2, c3, c4, c5, c6, c7, c8, c9, c10, c11, c12, c13, c14, c15, c16, c17, q0_0, q0_1, q0_2, q0_3, q0_4, q0_5, q1_0, q1_1, q1_2, q1_3, q1_4, q1_5, q2_0, q2_1, q2_2, q2_3, q2_4, q2_5, r⟩

end Go.Proofs.YtbadkjfjdkbgfaaGreat

namespace Go.PL
open Go.RL
theorem vld3_c {b c : Rat} (h : vld3 b c = true) : (b = 0 ↔ c = 0) ∧ 0 ≤ c := by
  unfold vld3 at h
  split at h
  · simp only [Bool.and_eq_true, decide_eq_true_eq] at h
    rw [h.1, h.2]; exact ⟨by simp, Rat.le_refl⟩
  · rename_i hn
    simp only [not_or] at hn
    simp only [Bool.and_eq_true, decide_eq_true_eq] at h
    exact ⟨⟨fun q => absurd q hn.1, fun q => absurd q hn.2⟩, Rat.le_of_lt h.1⟩
theorem make_X {b c b' c' : Rat} (h : vld3 b c = true) : rC b (pC b b' (rK b c c')) = c := by
  by_cases hb : b = 0
  · rw [rC_0 hb, ((vld3_c h).1.1 hb)]
  · rw [rC_1 hb, pC_1 hb, rK_1 hb]
theorem make_Y {b c b' c' : Rat} (h : vld3 b c = true) (h' : vld3 b' c' = true) (hm : b = 0 ∨ b' = 0 ∨ c = c') : rC b' (pC b b' (rK b c c')) = c' := by
  by_cases hb' : b' = 0
  · rw [rC_0 hb', ((vld3_c h').1.1 hb')]
  · rw [rC_1 hb', pC_2 hb']
    by_cases hb : b = 0
    · rw [rK_0 hb]
    · rw [rK_1 hb]; rcases hm with hm | hm | hm
      · contradiction
      · contradiction
      · exact hm
end Go.PL

namespace Go.PL
open Go.RL
/-- The cells of a point. -/
structure PtC (X : List PC) : Prop where
  len : X.length = 20
  im : X.all PC.im = true
  nm : X.map PC.norm = X
theorem PtC.tk {X : List PC} (h : PtC X) : X.take 20 = X := List.take_of_length_le (by rw [h.len]; omega)
theorem PtC.ne {X : List PC} (h : PtC X) : (X = []) = False := eq_false fun q => by have := h.len; rw [q] at this; cases this
theorem idx_p1 {X : List PC} (h : PtC X) {sz bs ag zz e k} : indexA ⟨sz, bs, ag, zz, .slice e⟩ 20 (some (.c (.sl 1 X))) (some (.c (.int k ((0 : Nat) : Int)))) = some (.iptr X) := by
  show (if (0 : Int) ≤ ((0 : Nat) : Int) ∧ ((0 : Nat) : Int) < ((1 : Nat) : Int) then some (PC.iptr ((X.drop (((0 : Nat) : Int).toNat * 20)).take 20)) else none) = _
  rw [if_pos (by omega)]
  show some (PC.iptr (X.take 20)) = _
  rw [h.tk]
theorem idx_p20 {X Y : List PC} (h : PtC X) {sz bs ag zz e k} : indexA ⟨sz, bs, ag, zz, .slice e⟩ 20 (some (.c (.sl 2 (X ++ Y)))) (some (.c (.int k ((0 : Nat) : Int)))) = some (.iptr X) := by
  show (if (0 : Int) ≤ ((0 : Nat) : Int) ∧ ((0 : Nat) : Int) < ((2 : Nat) : Int) then some (PC.iptr (((X ++ Y).drop (((0 : Nat) : Int).toNat * 20)).take 20)) else none) = _
  rw [if_pos (by omega)]
  show some (PC.iptr ((X ++ Y).take 20)) = _
  rw [List.take_append_of_le_length (by rw [h.len]; omega), h.tk]
theorem idx_p21 {X Y : List PC} (h : PtC X) (h' : PtC Y) {sz bs ag zz e k} : indexA ⟨sz, bs, ag, zz, .slice e⟩ 20 (some (.c (.sl 2 (X ++ Y)))) (some (.c (.int k ((1 : Nat) : Int)))) = some (.iptr Y) := by
  show (if (0 : Int) ≤ ((1 : Nat) : Int) ∧ ((1 : Nat) : Int) < ((2 : Nat) : Int) then some (PC.iptr (((X ++ Y).drop (((1 : Nat) : Int).toNat * 20)).take 20)) else none) = _
  rw [if_pos (by omega)]
  show some (PC.iptr (((X ++ Y).drop 20).take 20)) = _
  rw [show (X ++ Y).drop 20 = Y by rw [← h.len, List.drop_left], h'.tk]
theorem PtC.rat (a b d e c : Rat) : PtC (ratC a ++ (ratC b ++ (ratC d ++ (ratC e ++ ratC c)))) := ⟨by simp, by simp, by simp [List.map_append]⟩
theorem PtC.raw (n0 n1 n2 n3 n4 n5 n6 n7 n8 n9 : Bool) (l0 l1 l2 l3 l4 l5 l6 l7 l8 l9 : List Nat) : PtC [.bool n0, lC l0, .bool n1, lC l1, .bool n2, lC l2, .bool n3, lC l3, .bool n4, lC l4, .bool n5, lC l5, .bool n6, lC l6, .bool n7, lC l7, .bool n8, lC l8, .bool n9, lC l9] :=
  ⟨rfl, rfl, rfl⟩
theorem szr_i64 {n : Int} (h : -9223372036854775808 ≤ n) (h' : n < 9223372036854775808) : SzR ((n : Int) : Rat) 3 := by
  refine ⟨?_, ?_⟩
  · rw [Rat.num_intCast]; exact szi_lit (Nat.lt_trans (show n.natAbs < 9223372036854775809 by omega) (by decide))
  · rw [Rat.den_intCast]; exact szi_lit (by decide)
theorem vldP_nn {b e c : Rat} (h : vldP b e c = true) : 0 ≤ c := by
  unfold vldP at h
  split at h
  · simp only [decide_eq_true_eq] at h; rw [h]; exact Rat.le_refl
  · simp only [Bool.and_eq_true, decide_eq_true_eq] at h; exact Rat.le_of_lt h.1
theorem vldP_iff {b e c : Rat} (h : vldP b e c = true) : (b = 0 ∧ e = 0) ↔ c = 0 := by
  unfold vldP at h
  split at h
  · rename_i q; simp only [decide_eq_true_eq] at h; exact ⟨fun _ => h, fun _ => q⟩
  · rename_i q
    simp only [Bool.and_eq_true, decide_eq_true_eq] at h
    exact ⟨fun p => absurd p q, fun p => absurd h.1 (by rw [p]; exact Rat.lt_irrefl)⟩
/-- The order's laws. -/
theorem cmpR_swap {a b c a' b' c' : Rat} (hc : 0 ≤ c) (hc' : 0 ≤ c') : cmpR a' b' c' a b c = -cmpR a b c a' b' c' := by
  rw [cmpR_eq hc' hc, cmpR_eq hc hc', ← sgn_neg]
  congr 1
  apply Re.ext; intro n
  simp only [Re.sub_s, Re.neg_s]
  grind
theorem cmpP_swap {a b d e c a' b' d' e' c' : Rat} (hc : 0 ≤ c) (hc' : 0 ≤ c') : cmpP a' b' d' e' c' a b d e c = -cmpP a b d e c a' b' d' e' c' := by
  have hx := cmpR_swap (a := a) (b := b) (a' := a') (b' := b') (rC_nn (b := b) hc) (rC_nn (b := b') hc')
  have hy := cmpR_swap (a := d) (b := e) (a' := d') (b' := e') (rC_nn (b := e) hc) (rC_nn (b := e') hc')
  by_cases h : cmpR a b (rC b c) a' b' (rC b' c') = 0
  · rw [cmpP_0 h, cmpP_0 (by rw [hx, h]; rfl), hy]
  · rw [cmpP_1 h, cmpP_1 (by rw [hx]; omega), hx]
theorem sgn_sub_self (x : Re) : sgn (x - x) = 0 := sgn_zero.2 (eqv_refl x)
theorem cmpR_self {a b c : Rat} (hc : 0 ≤ c) : cmpR a b c a b c = 0 := by rw [cmpR_eq hc hc, sgn_sub_self]
theorem cmpP_self {a b d e c : Rat} (hc : 0 ≤ c) : cmpP a b d e c a b d e c = 0 := by rw [cmpP_0 (cmpR_self (rC_nn hc)), cmpR_self (rC_nn hc)]
theorem cmpR_bd (a b c a' b' c' : Rat) (hc : 0 ≤ c) (hc' : 0 ≤ c') : -1 ≤ cmpR a b c a' b' c' ∧ cmpR a b c a' b' c' ≤ 1 := by
  rw [cmpR_eq hc hc']
  rcases sgn_cases (v2 a b c - v2 a' b' c') with ⟨_, h⟩ | ⟨_, h⟩ | ⟨_, h⟩ <;> omega
theorem cmpP_bd {a b d e c a' b' d' e' c' : Rat} (hc : 0 ≤ c) (hc' : 0 ≤ c') : -1 ≤ cmpP a b d e c a' b' d' e' c' ∧ cmpP a b d e c a' b' d' e' c' ≤ 1 := by
  unfold cmpP
  split
  · exact cmpR_bd _ _ _ _ _ _ (rC_nn hc) (rC_nn hc')
  · exact cmpR_bd _ _ _ _ _ _ (rC_nn hc) (rC_nn hc')
end Go.PL

namespace Go.PL
open Go.RL
theorem two_facts {c : Rat} (hc : 0 ≤ c) : sgnQ c = 1 ∨ c = 0 := by
  by_cases h : c = 0
  · exact .inr h
  · left; unfold sgnQ; rw [if_neg (by grind), if_pos (by grind)]
/-- The reference's sign of a root is the sign of its value, where the radicand is no square. -/
theorem r3S_two {a b c : Rat} (hc : b = 0 ∨ (0 < c ∧ sqB c = false)) : r3S a b c = two a b c := by
  rcases hc with rfl | ⟨hc, hs⟩
  · have h0 : sgnQ 0 = 0 := by decide +kernel
    rw [two_1 (by rw [h0, Int.zero_mul])]
    unfold r3S; rw [if_pos (.inr h0)]
  · have h1 : sgnQ c = 1 := by
      rcases two_facts (Rat.le_of_lt hc) with h | h
      · exact h
      · rw [h] at hc; exact absurd hc Rat.lt_irrefl
    have ht : sgnQ b * sgnQ c = sgnQ b := by rw [h1, Int.mul_one]
    by_cases hb : sgnQ b = 0
    · rw [two_1 (by rw [ht]; exact hb)]
      unfold r3S; rw [if_pos (.inr hb)]
    by_cases hab : sgnQ a = sgnQ b
    · rw [two_2 (by rw [ht]; exact hab)]
      unfold r3S; rw [if_pos (.inl hab)]
    have hn : ¬ (sgnQ a = sgnQ b ∨ sgnQ b = 0) := fun h => h.elim hab hb
    by_cases ha : sgnQ a = 0
    · rw [two_3 ha, ht]
      unfold r3S; rw [if_neg hn, if_pos ha]
    · rw [two_4 (by rw [ht]; exact hb) (by rw [ht]; exact hab) ha]
      have hne : a * a - b * b * c ≠ 0 := by
        intro he
        have hb0 : b ≠ 0 := fun q => hb (by rw [sgnQ_eqz]; exact q)
        have : (a / b) * (a / b) = c := by
          have h3 : a * a = b * b * c := by grind
          have h2 : (a / b) * (a / b) = (a * a) / (b * b) := by grind
          rw [h2, h3]
          grind
        rw [sqB_of this] at hs; cases hs
      have hcm : cmpQ (a * a) (b * b * c) = sgnQ (a * a - b * b * c) := rfl
      rw [hcm]
      have hsa := sgnQ_cases a; have hsb := sgnQ_cases b
      have h4 := sgnQ_bd (a * a - b * b * c)
      have h3 : sgnQ (a * a - b * b * c) ≠ 0 := by rw [Ne, sgnQ_eqz]; exact hne
      unfold r3S
      rw [if_neg hn, if_neg ha]
      by_cases hp : 0 < sgnQ (a * a - b * b * c)
      · rw [if_pos hp, show sgnQ (a * a - b * b * c) = 1 by omega, Int.mul_one]
      · rw [if_neg hp, show sgnQ (a * a - b * b * c) = -1 by omega]
        omega
theorem v2_rC {a b c : Rat} : v2 a b (rC b c) = v2 a b c := by
  by_cases h : b = 0
  · rw [h, v2_b0, v2_b0]
  · rw [rC_1 h]
/-- The parts of the reference's square. -/
theorem sq_part {x b c : Rat} (h : b = 0 → x = 0) (hc : c = 0 → b = 0) : r3B x (rC b c) = x ∧ r3C x (rC b c) = rC x c := by
  by_cases hb : b = 0
  · have hx := h hb
    rw [rC_0 hb, rC_0 hx, hx]
    exact ⟨(r3_z (.inl rfl)).1, (r3_z (.inl rfl)).2⟩
  · rw [rC_1 hb]
    by_cases hx : x = 0
    · rw [rC_0 hx, hx]; exact ⟨(r3_z (.inl rfl)).1, (r3_z (.inl rfl)).2⟩
    · have := r3_n (b := x) (c := c) (by rintro (q | q); exact hx q; exact hb (hc q))
      rw [rC_1 hx]; exact this
theorem sq_sum {x y c : Rat} (h : c = 0 → x = 0 ∧ y = 0) : r3B (x + y) (rK x (rC x c) (rC y c)) = x + y ∧ r3C (x + y) (rK x (rC x c) (rC y c)) = rC (x + y) c := by
  by_cases hs : x + y = 0
  · rw [rC_0 hs, hs]; exact ⟨(r3_z (.inl rfl)).1, (r3_z (.inl rfl)).2⟩
  · rw [rC_1 hs]
    have hc : c ≠ 0 := fun q => hs (by rw [(h q).1, (h q).2]; exact Rat.add_zero 0)
    have hK : rK x (rC x c) (rC y c) = c := by
      by_cases hx : x = 0
      · rw [rK_0 hx]
        exact rC_1 fun hy => hs (by rw [hx, hy]; exact Rat.add_zero 0)
      · rw [rK_1 hx, rC_1 hx]
    rw [hK]
    exact r3_n (by rintro (q | q); exact hs q; exact hc q)
theorem sq_hok {x y c : Rat} : (decide (x = 0) || (decide (y = 0) || decide (rC x c = rC y c))) = true := by
  by_cases hx : x = 0
  · rw [decide_eq_true hx]; rfl
  · by_cases hy : y = 0
    · rw [decide_eq_true hy, Bool.true_or, Bool.or_true]
    · rw [rC_1 hx, rC_1 hy, decide_eq_true (rfl : c = c), Bool.or_true, Bool.or_true]
/-- Where a point's radicand is zero, so are the factors. -/
theorem vldP_z {b e c : Rat} (h : vldP b e c = true) (hc : c = 0) : b = 0 ∧ e = 0 := (vldP_iff h).2 hc
theorem vldP_s {b e c : Rat} (h : vldP b e c = true) (hc : c ≠ 0) : 0 < c ∧ sqB c = false := by
  unfold vldP at h
  split at h
  · simp only [decide_eq_true_eq] at h; contradiction
  · simpa using h
variable {a b d e c v w : Rat}
/-- The square's value. -/
theorem sq_val (hc : 0 ≤ c) : eqv (v2 (sqA a b d e c v w) (sqB2 a b d e v w) c) (v2 (a - v) b c * v2 (a - v) b c + v2 (d - w) e c * v2 (d - w) e c) := by
  have h : v2 (a - v) b c * v2 (a - v) b c + v2 (d - w) e c * v2 (d - w) e c - v2 (sqA a b d e c v w) (sqB2 a b d e v w) c = Re.of (b * b + e * e) * (rt c * rt c - Re.of c) := Re.ext fun n => by
    simp only [v2, sqA, sqB2, Re.sub_s, Re.add_s, Re.mul_s, Re.of_s]; grind
  refine eqv_symm ?_
  unfold eqv
  rw [h]
  exact null_mul' _ (rt_sq hc)
theorem sgn_mul_self (x : Re) : sgn (x * x) = if sgn x = 0 then 0 else 1 := by
  rw [sgn_mul]
  rcases sgn_cases x with ⟨_, h⟩ | ⟨_, h⟩ | ⟨_, h⟩ <;> rw [h] <;> simp
/-- The square's sign. -/
theorem sq_sign (h : vldP b e c = true) : 0 ≤ r3S (sqA a b d e c v w) (sqB2 a b d e v w) (rC (sqB2 a b d e v w) c) ∧
    (r3S (sqA a b d e c v w) (sqB2 a b d e v w) (rC (sqB2 a b d e v w) c) = 0 ↔ sgn (v2 (a - v) b c) = 0 ∧ sgn (v2 (d - w) e c) = 0) := by
  have hc := vldP_nn h
  have e1 : r3S (sqA a b d e c v w) (sqB2 a b d e v w) (rC (sqB2 a b d e v w) c) = two (sqA a b d e c v w) (sqB2 a b d e v w) (rC (sqB2 a b d e v w) c) := by
    refine r3S_two ?_
    by_cases hB : sqB2 a b d e v w = 0
    · exact .inl hB
    · right
      rw [rC_1 hB]
      refine vldP_s h fun q => hB ?_
      obtain ⟨rfl, rfl⟩ := vldP_z h q
      unfold sqB2; grind
  rw [e1, two_eq (rC_nn hc), v2_rC, sgn_eqv (sq_val hc)]
  have hx := sgn_mul_self (v2 (a - v) b c); have hy := sgn_mul_self (v2 (d - w) e c)
  have nx : 0 ≤ sgn (v2 (a - v) b c * v2 (a - v) b c) := by rw [hx]; split <;> omega
  have ny : 0 ≤ sgn (v2 (d - w) e c * v2 (d - w) e c) := by rw [hy]; split <;> omega
  obtain ⟨h1, h2, h3⟩ := nonneg_add nx ny
  refine ⟨h1, ?_⟩
  by_cases cx : sgn (v2 (a - v) b c) = 0
  · by_cases cy : sgn (v2 (d - w) e c) = 0
    · rw [if_pos cx] at hx; rw [if_pos cy] at hy
      exact ⟨fun _ => ⟨cx, cy⟩, fun _ => h3 hx hy⟩
    · rw [if_neg cy] at hy
      have := h2 (.inr (by omega))
      exact ⟨fun q => by omega, fun q => absurd q.2 cy⟩
  · rw [if_neg cx] at hx
    have := h2 (.inl (by omega))
    exact ⟨fun q => by omega, fun q => absurd q.1 cx⟩
theorem cmp_at {a b c v c' : Rat} (hc : 0 ≤ c) (hc' : 0 ≤ c') : cmpR a b (rC b c) v 0 c' = sgn (v2 (a - v) b c) := by
  rw [cmpR_eq (rC_nn hc) hc', v2_rC, v2_b0]
  congr 1
  apply Re.ext; intro n
  simp only [v2, Re.sub_s, Re.add_s, Re.mul_s, Re.of_s]
  grind
theorem cmpP_at (hc : 0 ≤ c) : cmpP a b d e c v 0 w 0 0 = 0 ↔ sgn (v2 (a - v) b c) = 0 ∧ sgn (v2 (d - w) e c) = 0 := by
  have h0 : (0 : Rat) ≤ rC 0 0 := rC_nn Rat.le_refl
  have hx := cmp_at (a := a) (b := b) (v := v) hc h0
  have hy := cmp_at (a := d) (b := e) (v := w) hc h0
  by_cases h : cmpR a b (rC b c) v 0 (rC 0 0) = 0
  · rw [cmpP_0 h, hy]
    rw [hx] at h
    exact ⟨fun q => ⟨h, q⟩, fun q => q.2⟩
  · rw [cmpP_1 h]
    rw [hx] at h ⊢
    exact ⟨fun q => absurd q h, fun q => q.1⟩
theorem sq_dec (h : vldP b e c = true) : decide (r3S (sqA a b d e c v w) (sqB2 a b d e v w) (rC (sqB2 a b d e v w) c) = 0) = decide (cmpP a b d e c v 0 w 0 0 = 0) :=
  decide_eq_decide.2 ((sq_sign h).2.trans (cmpP_at (vldP_nn h)).symm)
theorem sqA_t {v' w' : Rat} : sqA (a + v') b (d + w') e c (v + v') (w + w') = sqA a b d e c v w := by unfold sqA; grind
theorem sqB_t {v' w' : Rat} : sqB2 (a + v') b (d + w') e (v + v') (w + w') = sqB2 a b d e v w := by unfold sqB2; grind
instance SzR.sqA {k1 k2 k3 k4 k5 k6 k7 : Nat} [SzR a k1] [SzR b k2] [SzR d k3] [SzR e k4] [SzR c k5] [SzR v k6] [SzR w k7] : SzR (sqA a b d e c v w) (k1 + k6 + 1 + (k1 + k6 + 1) + (k3 + k7 + 1 + (k3 + k7 + 1)) + 1 + (k2 + k2 + (k4 + k4) + 1 + k5) + 1) := by
  unfold PL.sqA; infer_instance
instance SzR.sqB2 {k1 k2 k3 k4 k6 k7 : Nat} [SzR a k1] [SzR b k2] [SzR d k3] [SzR e k4] [SzR v k6] [SzR w k7] : SzR (sqB2 a b d e v w) (k1 + k6 + 1 + k2 + (k3 + k7 + 1 + k4) + 1 + (k1 + k6 + 1 + k2 + (k3 + k7 + 1 + k4) + 1) + 1) := by
  unfold PL.sqB2; infer_instance
end Go.PL

namespace Go.PL
open Go.RL
theorem idx_a0 {sz bs ag zz e k id off} : indexA ⟨sz, bs, ag, zz, .array 3 e⟩ 6 (some (.c (.ptr id off))) (some (.c (.int k 0))) = some (.ptr id off) := rfl
theorem idx_a1 {sz bs ag zz e k id off} : indexA ⟨sz, bs, ag, zz, .array 3 e⟩ 6 (some (.c (.ptr id off))) (some (.c (.int k 1))) = some (.ptr id (off + 6)) := rfl
theorem idx_a2 {sz bs ag zz e k id off} : indexA ⟨sz, bs, ag, zz, .array 3 e⟩ 6 (some (.c (.ptr id off))) (some (.c (.int k 2))) = some (.ptr id (off + 12)) := rfl
theorem of_hm {b b' c : Rat} : r3B b c = 0 ∨ r3B b' c = 0 ∨ r3C b c = r3C b' c := by
  by_cases h : b = 0 ∨ c = 0
  · exact .inl (r3_z h).1
  · by_cases h' : b' = 0 ∨ c = 0
    · exact .inr (.inl (r3_z h').1)
    · exact .inr (.inr (by rw [(r3_n h).2, (r3_n h').2]))
theorem pC_nn {b d c : Rat} (h : 0 ≤ c) : 0 ≤ pC b d c := by
  unfold pC; split
  · exact Rat.le_refl
  · exact h
theorem rK_nn {b c c' : Rat} (h : 0 ≤ c) (h' : 0 ≤ c') : 0 ≤ rK b c c' := by
  unfold rK; split
  · exact h'
  · exact h
theorem r3C_nn {b c : Rat} (h : 0 ≤ c) : 0 ≤ r3C b c := by
  unfold r3C; split
  · exact Rat.le_refl
  · exact h
theorem sgn_tr {x y : Re} (h : sgn x ≤ 0) (h' : sgn y ≤ 0) : sgn (x + y) ≤ 0 ∧ (sgn x < 0 ∨ sgn y < 0 → sgn (x + y) = -1) ∧ (sgn x = 0 → sgn y = 0 → sgn (x + y) = 0) := by
  obtain ⟨h1, h2, h3⟩ := nonneg_add (x := -x) (y := -y) (by rw [sgn_neg]; omega) (by rw [sgn_neg]; omega)
  have e : -x + -y = -(x + y) := Re.ext fun n => by simp only [Re.add_s, Re.neg_s]; grind
  rw [e, sgn_neg] at h1 h2 h3
  rw [sgn_neg, sgn_neg] at h2 h3
  exact ⟨by omega, fun q => by have := h2 (by omega); omega, fun q q' => by have := h3 (by omega) (by omega); omega⟩
theorem cmpR_tr {a b c a' b' c' a2 b2 c2 : Rat} (hc : 0 ≤ c) (hc' : 0 ≤ c') (hc2 : 0 ≤ c2) (h : cmpR a b c a' b' c' ≤ 0) (h' : cmpR a' b' c' a2 b2 c2 ≤ 0) :
    cmpR a b c a2 b2 c2 ≤ 0 ∧ (cmpR a b c a' b' c' < 0 ∨ cmpR a' b' c' a2 b2 c2 < 0 → cmpR a b c a2 b2 c2 = -1) ∧ (cmpR a b c a' b' c' = 0 → cmpR a' b' c' a2 b2 c2 = 0 → cmpR a b c a2 b2 c2 = 0) := by
  rw [cmpR_eq hc hc'] at h ⊢
  rw [cmpR_eq hc' hc2] at h' ⊢
  rw [cmpR_eq hc hc2]
  have e : v2 a b c - v2 a2 b2 c2 = (v2 a b c - v2 a' b' c') + (v2 a' b' c' - v2 a2 b2 c2) := Re.ext fun n => by simp only [Re.add_s, Re.sub_s]; grind
  rw [e]
  exact sgn_tr h h'
theorem lex_tr {x1 x2 x3 y1 y2 y3 : Int} (hx : x1 ≤ 0 → x2 ≤ 0 → x3 ≤ 0 ∧ (x1 < 0 ∨ x2 < 0 → x3 = -1) ∧ (x1 = 0 → x2 = 0 → x3 = 0)) (hy : y1 ≤ 0 → y2 ≤ 0 → y3 ≤ 0 ∧ (y1 < 0 ∨ y2 < 0 → y3 = -1) ∧ (y1 = 0 → y2 = 0 → y3 = 0))
    (h : (if x1 ≠ 0 then x1 else y1) ≤ 0) (h' : (if x2 ≠ 0 then x2 else y2) ≤ 0) : (if x3 ≠ 0 then x3 else y3) ≤ 0 ∧ ((if x1 ≠ 0 then x1 else y1) < 0 ∨ (if x2 ≠ 0 then x2 else y2) < 0 → (if x3 ≠ 0 then x3 else y3) < 0) := by
  have hx1 : x1 ≤ 0 := by split at h <;> omega
  have hx2 : x2 ≤ 0 := by split at h' <;> omega
  obtain ⟨a1, a2, a3⟩ := hx hx1 hx2
  by_cases c1 : x1 = 0
  · by_cases c2 : x2 = 0
    · have c3 := a3 c1 c2
      rw [if_neg (by omega)] at h h'
      obtain ⟨b1, b2, b3⟩ := hy h h'
      rw [if_neg (by omega), if_neg (by omega), if_neg (by omega)]
      exact ⟨b1, fun q => by have := b2 q; omega⟩
    · have := a2 (by omega)
      rw [show (if x3 ≠ 0 then x3 else y3) = x3 from if_pos (by omega)]
      exact ⟨a1, fun _ => by omega⟩
  · have := a2 (by omega)
    rw [show (if x3 ≠ 0 then x3 else y3) = x3 from if_pos (by omega)]
    exact ⟨a1, fun _ => by omega⟩
theorem cmpP_tr {a b d e c a' b' d' e' c' a2 b2 d2 e2 c2 : Rat} (hc : 0 ≤ c) (hc' : 0 ≤ c') (hc2 : 0 ≤ c2) (h : cmpP a b d e c a' b' d' e' c' ≤ 0) (h' : cmpP a' b' d' e' c' a2 b2 d2 e2 c2 ≤ 0) :
    cmpP a b d e c a2 b2 d2 e2 c2 ≤ 0 ∧ (cmpP a b d e c a' b' d' e' c' < 0 ∨ cmpP a' b' d' e' c' a2 b2 d2 e2 c2 < 0 → cmpP a b d e c a2 b2 d2 e2 c2 < 0) := by
  unfold cmpP at h h' ⊢
  exact lex_tr (fun q q' => cmpR_tr (rC_nn hc) (rC_nn hc') (rC_nn hc2) q q') (fun q q' => cmpR_tr (rC_nn hc) (rC_nn hc') (rC_nn hc2) q q') h h'
theorem cmpP_t {a b d e c a' b' d' e' c' v w : Rat} : cmpP (a + v) b (d + w) e c (a' + v) b' (d' + w) e' c' = cmpP a b d e c a' b' d' e' c' := by
  unfold cmpP cmpR
  rw [show a + v - (a' + v) = a - a' by grind, show d + w - (d' + w) = d - d' by grind]
theorem five5 {a b c : Int} (h : a ≤ 0 → b ≤ 0 → c ≤ 0 ∧ (a < 0 ∨ b < 0 → c < 0)) : ¬ a ≤ 0 ∨ (a ≤ 0 ∧ ¬ b ≤ 0) ∨ (a ≤ 0 ∧ b ≤ 0 ∧ a < 0 ∧ c < 0) ∨ (a ≤ 0 ∧ b ≤ 0 ∧ ¬ a < 0 ∧ b < 0 ∧ c < 0) ∨ (a ≤ 0 ∧ b ≤ 0 ∧ ¬ a < 0 ∧ ¬ b < 0 ∧ ¬ 0 < c) := by
  by_cases h1 : a ≤ 0
  · by_cases h2 : b ≤ 0
    · obtain ⟨h3, h4⟩ := h h1 h2
      by_cases h5 : a < 0
      · have := h4 (.inl h5); omega
      · by_cases h6 : b < 0
        · have := h4 (.inr h6); omega
        · omega
    · omega
  · omega
end Go.PL

set_option linter.unusedSimpArgs false
set_option linter.unusedVariables false
set_option maxRecDepth 20000
namespace Go.Proofs.YtbadkjfjdkbgfaaGreat
open Go Go.PL Go.RL
set_option maxHeartbeats 4000000 in
theorem c_small1_t (X : List PC) (hX : PtC X) (h1 : Ret Tryz.prog 58 [.a X, .c (.int .i64 3)] (.e (.c (.bool true)))) :
    Ret Tryz.prog 19 [.c (.sl 1 X)] (.e (.c (.bool true))) := by
  refine ret_of_body (md := {}) Tryz.func19 (by kernel_rfl) rfl ?_
  simp only [Tryz.f19, List.map_cons, List.map_nil, List.length_cons, List.length_nil, Nat.zero_add, Nat.reduceAdd, Nat.reduceSub, List.reduceReplicate, List.cons_append, List.nil_append]
  refine pwx_sr 0 [] (by rfl) (fun K1 hK1 => ?_)
  simp (disch := omega) only [go_sem, hX.ne, not_false_eq_true, true_and, hX.len, hX.tk, hX.im, hX.nm, idx_p1 hX]
  refine hK1 _ ?_
  clear hK1 K1
  refine pwp_seq ?_
  refine pwx_sr 0 [] (by rfl) (fun K2 hK2 => ?_)
  simp (disch := omega) only [go_sem, hX.ne, not_false_eq_true, true_and, hX.len, hX.tk, hX.im, hX.nm, idx_p1 hX]
  refine hK2 _ ?_
  clear hK2 K2
  refine pwp_block ?_
  refine pwp_loopF (false :: false :: true :: false :: false :: true :: true :: true :: false :: false :: false :: false :: false :: false :: false :: []) 0 (fun M s => ∃ u : Nat, (u ≤ 1) ∧ 1 - u = M ∧ s = { slots := .j :: .j :: .e (.c (.bool false)) :: .j :: .j :: .e (.c (.sl 1 X)) :: .e (.c (.int .i64 ((1 : Nat) : Int))) :: .e (.c (.int .i64 (u : Int))) :: .j :: .j :: .j :: .j :: .j :: .j :: .j :: [], st := [] }) (n := 1) rfl ?_ ?_ ?_
  · refine ⟨0, ?_, rfl, ?_⟩
    · omega
    · first | rfl | (simp only [St.cut, keep, if_true, if_false, Bool.false_eq_true, List.take_succ_cons, List.take_zero, List.take_nil]; try simp)
  · refine ⟨rfl, ?_, ?_⟩ <;> first | rfl | (simp [keep, PV.lt, PE.lt, PC.lt, Box.lt, ↓lC_lt]; done) | simp [keep, PV.lt, PE.lt, PC.lt, Box.lt, ↓lC_lt, ↓intC_lt, ↓ratC_lt, ↓u32s_lt]
  · rintro _ _ ⟨u, hu, rfl, rfl⟩
    refine pwx_sr 0 [] (by rfl) (fun K3 hK3 => ?_)
    simp (disch := omega) only [go_sem, hX.ne, not_false_eq_true, true_and, hX.len, hX.tk, hX.im, hX.nm, idx_p1 hX]
    refine hK3 _ ?_
    clear hK3 K3
    refine pwp_seq ?_
    refine pwp_cond (b := _) (by rfl) (fun hb0 => ?_) (fun hb0 => ?_)
    · obtain rfl : u = 0 := by have := of_decide_eq_true hb0; omega
      refine pwp_skip ?_
      refine n_then ?_
      refine pwp_seq ?_
      refine pwp_block ?_
      refine pwx_sr 1 [] (by rfl) (fun K4 hK4 => ?_)
      simp (disch := omega) only [go_sem, hX.ne, not_false_eq_true, true_and, hX.len, hX.tk, hX.im, hX.nm, idx_p1 hX]
      refine hK4 _ ?_
      clear hK4 K4
      refine pwx_sr 0 [] (by rfl) (fun K5 hK5 => ?_)
      refine rgnX_take 2 (fun K6 hK6 => ?_)
      simp (disch := omega) only [go_sem, hX.ne, not_false_eq_true, true_and, hX.len, hX.tk, hX.im, hX.nm, idx_p1 hX]
      refine ⟨_, h1, ?_⟩
      refine hK6 _ ?_
      simp (disch := omega) only [go_sem, hX.ne, not_false_eq_true, true_and, hX.len, hX.tk, hX.im, hX.nm, idx_p1 hX]
      refine hK5 _ ?_
      clear hK6 K6 hK5 K5
      refine pwp_cond (b := false) (by rfl) (fun h => nomatch h) (fun _ => ?_)
      refine pwp_skip ?_
      refine n_block ?_
      refine n_then ?_
      refine pwx_region 0 [] (by rfl) (fun K7 hK7 => ?_)
      simp (disch := omega) only [go_sem, hX.ne, not_false_eq_true, true_and, hX.len, hX.tk, hX.im, hX.nm, idx_p1 hX]
      refine hK7 _ ?_
      clear hK7 K7
      refine n_then ?_
      refine ⟨_, ?hdec, ⟨0 + 1, ?hf0, rfl, ?heq⟩, ?hok⟩
      case heq => first | rfl | (simp only [St.cut, keep, if_true, if_false, Bool.false_eq_true, List.take_succ_cons, List.take_zero, List.take_nil]; try simp)
      case hf0 => omega
      case hdec => omega
      case hok => refine ⟨rfl, ?_, ?_⟩ <;> first | rfl | (simp [keep, PV.lt, PE.lt, PC.lt, Box.lt, ↓lC_lt]; done) | simp [keep, PV.lt, PE.lt, PC.lt, Box.lt, ↓lC_lt, ↓intC_lt, ↓ratC_lt, ↓u32s_lt]
    · refine pwp_exit ?_
      refine e_then ?_
      refine e_then ?_
      refine e_here ?_
      refine n_then ?_
      refine pwx_sr 0 [] (by rfl) (fun K8 hK8 => ?_)
      simp (disch := omega) only [go_sem, hX.ne, not_false_eq_true, true_and, hX.len, hX.tk, hX.im, hX.nm, idx_p1 hX]
      refine hK8 _ ?_
      clear hK8 K8
      refine pwp_ret ?_
      refine ⟨Or.inr rfl, ?_⟩
      simp (disch := omega) only [go_sem, hX.ne, not_false_eq_true, true_and, hX.len, hX.tk, hX.im, hX.nm, idx_p1 hX]
set_option maxHeartbeats 4000000 in
theorem c_small1_f (X : List PC) (hX : PtC X) (h1 : Ret Tryz.prog 58 [.a X, .c (.int .i64 3)] (.e (.c (.bool false)))) :
    Ret Tryz.prog 19 [.c (.sl 1 X)] (.e (.c (.bool false))) := by
  refine ret_of_body (md := {}) Tryz.func19 (by kernel_rfl) rfl ?_
  simp only [Tryz.f19, List.map_cons, List.map_nil, List.length_cons, List.length_nil, Nat.zero_add, Nat.reduceAdd, Nat.reduceSub, List.reduceReplicate, List.cons_append, List.nil_append]
  refine pwx_sr 0 [] (by rfl) (fun K1 hK1 => ?_)
  simp (disch := omega) only [go_sem, hX.ne, not_false_eq_true, true_and, hX.len, hX.tk, hX.im, hX.nm, idx_p1 hX]
  refine hK1 _ ?_
  clear hK1 K1
  refine pwp_seq ?_
  refine pwx_sr 0 [] (by rfl) (fun K2 hK2 => ?_)
  simp (disch := omega) only [go_sem, hX.ne, not_false_eq_true, true_and, hX.len, hX.tk, hX.im, hX.nm, idx_p1 hX]
  refine hK2 _ ?_
  clear hK2 K2
  refine pwp_block ?_
  refine pwp_loopF (false :: false :: true :: false :: false :: true :: true :: true :: false :: false :: false :: false :: false :: false :: false :: []) 0 (fun M s => ∃ u : Nat, (u = 0) ∧ 1 - u = M ∧ s = { slots := .j :: .j :: .e (.c (.bool false)) :: .j :: .j :: .e (.c (.sl 1 X)) :: .e (.c (.int .i64 ((1 : Nat) : Int))) :: .e (.c (.int .i64 (u : Int))) :: .j :: .j :: .j :: .j :: .j :: .j :: .j :: [], st := [] }) (n := 1) rfl ?_ ?_ ?_
  · refine ⟨0, ?_, rfl, ?_⟩
    · rfl
    · first | rfl | (simp only [St.cut, keep, if_true, if_false, Bool.false_eq_true, List.take_succ_cons, List.take_zero, List.take_nil]; try simp)
  · refine ⟨rfl, ?_, ?_⟩ <;> first | rfl | (simp [keep, PV.lt, PE.lt, PC.lt, Box.lt, ↓lC_lt]; done) | simp [keep, PV.lt, PE.lt, PC.lt, Box.lt, ↓lC_lt, ↓intC_lt, ↓ratC_lt, ↓u32s_lt]
  · rintro _ _ ⟨u, hu, rfl, rfl⟩
    subst hu
    refine pwx_sr 0 [] (by rfl) (fun K3 hK3 => ?_)
    simp (disch := omega) only [go_sem, hX.ne, not_false_eq_true, true_and, hX.len, hX.tk, hX.im, hX.nm, idx_p1 hX]
    refine hK3 _ ?_
    clear hK3 K3
    refine pwp_seq ?_
    refine pwp_cond (b := true) (by rfl) (fun _ => ?_) (fun h => nomatch h)
    refine pwp_skip ?_
    refine n_then ?_
    refine pwp_seq ?_
    refine pwp_block ?_
    refine pwx_sr 1 [] (by rfl) (fun K4 hK4 => ?_)
    simp (disch := omega) only [go_sem, hX.ne, not_false_eq_true, true_and, hX.len, hX.tk, hX.im, hX.nm, idx_p1 hX]
    refine hK4 _ ?_
    clear hK4 K4
    refine pwx_sr 0 [] (by rfl) (fun K5 hK5 => ?_)
    refine rgnX_take 2 (fun K6 hK6 => ?_)
    simp (disch := omega) only [go_sem, hX.ne, not_false_eq_true, true_and, hX.len, hX.tk, hX.im, hX.nm, idx_p1 hX]
    refine ⟨_, h1, ?_⟩
    refine hK6 _ ?_
    simp (disch := omega) only [go_sem, hX.ne, not_false_eq_true, true_and, hX.len, hX.tk, hX.im, hX.nm, idx_p1 hX]
    refine hK5 _ ?_
    clear hK6 K6 hK5 K5
    refine pwp_cond (b := true) (by rfl) (fun _ => ?_) (fun h => nomatch h)
    refine pwx_sr 0 [] (by rfl) (fun K7 hK7 => ?_)
    simp (disch := omega) only [go_sem, hX.ne, not_false_eq_true, true_and, hX.len, hX.tk, hX.im, hX.nm, idx_p1 hX]
    refine hK7 _ ?_
    clear hK7 K7
    refine pwp_ret ?_
    refine r_block ?_
    refine r_then ?_
    refine r_then ?_
    refine r_block ?_
    refine r_then ?_
    refine ⟨Or.inr rfl, ?_⟩
    simp (disch := omega) only [go_sem, hX.ne, not_false_eq_true, true_and, hX.len, hX.tk, hX.im, hX.nm, idx_p1 hX]
set_option maxHeartbeats 4000000 in
theorem c_small2_t (X Y : List PC) (hX : PtC X) (hY : PtC Y) (h1 : Ret Tryz.prog 58 [.a X, .c (.int .i64 3)] (.e (.c (.bool true)))) (h2 : Ret Tryz.prog 58 [.a Y, .c (.int .i64 3)] (.e (.c (.bool true)))) :
    Ret Tryz.prog 19 [.c (.sl 2 (X ++ Y))] (.e (.c (.bool true))) := by
  refine ret_of_body (md := {}) Tryz.func19 (by kernel_rfl) rfl ?_
  simp only [Tryz.f19, List.map_cons, List.map_nil, List.length_cons, List.length_nil, Nat.zero_add, Nat.reduceAdd, Nat.reduceSub, List.reduceReplicate, List.cons_append, List.nil_append]
  refine pwx_sr 0 [] (by rfl) (fun K1 hK1 => ?_)
  simp (disch := omega) only [go_sem, hX.ne, not_false_eq_true, true_and, hX.len, hX.tk, hX.im, hX.nm, hY.ne, hY.len, hY.tk, hY.im, hY.nm, idx_p20 hX, idx_p21 hX hY]
  refine hK1 _ ?_
  clear hK1 K1
  refine pwp_seq ?_
  refine pwx_sr 0 [] (by rfl) (fun K2 hK2 => ?_)
  simp (disch := omega) only [go_sem, hX.ne, not_false_eq_true, true_and, hX.len, hX.tk, hX.im, hX.nm, hY.ne, hY.len, hY.tk, hY.im, hY.nm, idx_p20 hX, idx_p21 hX hY]
  refine hK2 _ ?_
  clear hK2 K2
  refine pwp_block ?_
  refine pwp_loopF (false :: false :: true :: false :: false :: true :: true :: true :: false :: false :: false :: false :: false :: false :: false :: []) 0 (fun M s => ∃ u : Nat, (u ≤ 2) ∧ 2 - u = M ∧ s = { slots := .j :: .j :: .e (.c (.bool false)) :: .j :: .j :: .e (.c (.sl 2 (X ++ Y))) :: .e (.c (.int .i64 ((2 : Nat) : Int))) :: .e (.c (.int .i64 (u : Int))) :: .j :: .j :: .j :: .j :: .j :: .j :: .j :: [], st := [] }) (n := 2) rfl ?_ ?_ ?_
  · refine ⟨0, ?_, rfl, ?_⟩
    · omega
    · first | rfl | (simp only [St.cut, keep, if_true, if_false, Bool.false_eq_true, List.take_succ_cons, List.take_zero, List.take_nil]; try simp)
  · refine ⟨rfl, ?_, ?_⟩ <;> first | rfl | (simp [keep, PV.lt, PE.lt, PC.lt, Box.lt, ↓lC_lt]; done) | simp [keep, PV.lt, PE.lt, PC.lt, Box.lt, ↓lC_lt, ↓intC_lt, ↓ratC_lt, ↓u32s_lt]
  · rintro _ _ ⟨u, hu, rfl, rfl⟩
    refine pwx_sr 0 [] (by rfl) (fun K3 hK3 => ?_)
    simp (disch := omega) only [go_sem, hX.ne, not_false_eq_true, true_and, hX.len, hX.tk, hX.im, hX.nm, hY.ne, hY.len, hY.tk, hY.im, hY.nm, idx_p20 hX, idx_p21 hX hY]
    refine hK3 _ ?_
    clear hK3 K3
    refine pwp_seq ?_
    refine pwp_cond (b := _) (by rfl) (fun hb0 => ?_) (fun hb0 => ?_)
    · refine pwp_skip ?_
      refine n_then ?_
      refine pwp_seq ?_
      refine pwp_block ?_
      rcases (show u = 0 ∨ u = 1 by have := of_decide_eq_true hb0; omega) with rfl | rfl
      · refine pwx_sr 1 [] (by rfl) (fun K4 hK4 => ?_)
        simp (disch := omega) only [go_sem, hX.ne, not_false_eq_true, true_and, hX.len, hX.tk, hX.im, hX.nm, hY.ne, hY.len, hY.tk, hY.im, hY.nm, idx_p20 hX, idx_p21 hX hY]
        refine hK4 _ ?_
        clear hK4 K4
        refine pwx_sr 0 [] (by rfl) (fun K5 hK5 => ?_)
        refine rgnX_take 2 (fun K6 hK6 => ?_)
        simp (disch := omega) only [go_sem, hX.ne, not_false_eq_true, true_and, hX.len, hX.tk, hX.im, hX.nm, hY.ne, hY.len, hY.tk, hY.im, hY.nm, idx_p20 hX, idx_p21 hX hY]
        first | (refine ⟨_, h1, ?_⟩; refine hK6 _ ?_) | (refine ⟨_, h2, ?_⟩; refine hK6 _ ?_)
        simp (disch := omega) only [go_sem, hX.ne, not_false_eq_true, true_and, hX.len, hX.tk, hX.im, hX.nm, hY.ne, hY.len, hY.tk, hY.im, hY.nm, idx_p20 hX, idx_p21 hX hY]
        refine hK5 _ ?_
        clear hK6 K6 hK5 K5
        refine pwp_cond (b := false) (by rfl) (fun h => nomatch h) (fun _ => ?_)
        refine pwp_skip ?_
        refine n_block ?_
        refine n_then ?_
        refine pwx_region 0 [] (by rfl) (fun K7 hK7 => ?_)
        simp (disch := omega) only [go_sem, hX.ne, not_false_eq_true, true_and, hX.len, hX.tk, hX.im, hX.nm, hY.ne, hY.len, hY.tk, hY.im, hY.nm, idx_p20 hX, idx_p21 hX hY]
        refine hK7 _ ?_
        clear hK7 K7
        refine n_then ?_
        refine ⟨_, ?hdec, ⟨0 + 1, ?hf0, rfl, ?heq⟩, ?hok⟩
        case heq => first | rfl | (simp only [St.cut, keep, if_true, if_false, Bool.false_eq_true, List.take_succ_cons, List.take_zero, List.take_nil]; try simp)
        case hf0 => omega
        case hdec => omega
        case hok => refine ⟨rfl, ?_, ?_⟩ <;> first | rfl | (simp [keep, PV.lt, PE.lt, PC.lt, Box.lt, ↓lC_lt]; done) | simp [keep, PV.lt, PE.lt, PC.lt, Box.lt, ↓lC_lt, ↓intC_lt, ↓ratC_lt, ↓u32s_lt]
      · refine pwx_sr 1 [] (by rfl) (fun K8 hK8 => ?_)
        simp (disch := omega) only [go_sem, hX.ne, not_false_eq_true, true_and, hX.len, hX.tk, hX.im, hX.nm, hY.ne, hY.len, hY.tk, hY.im, hY.nm, idx_p20 hX, idx_p21 hX hY]
        refine hK8 _ ?_
        clear hK8 K8
        refine pwx_sr 0 [] (by rfl) (fun K9 hK9 => ?_)
        refine rgnX_take 2 (fun K10 hK10 => ?_)
        simp (disch := omega) only [go_sem, hX.ne, not_false_eq_true, true_and, hX.len, hX.tk, hX.im, hX.nm, hY.ne, hY.len, hY.tk, hY.im, hY.nm, idx_p20 hX, idx_p21 hX hY]
        first | (refine ⟨_, h1, ?_⟩; refine hK10 _ ?_) | (refine ⟨_, h2, ?_⟩; refine hK10 _ ?_)
        simp (disch := omega) only [go_sem, hX.ne, not_false_eq_true, true_and, hX.len, hX.tk, hX.im, hX.nm, hY.ne, hY.len, hY.tk, hY.im, hY.nm, idx_p20 hX, idx_p21 hX hY]
        refine hK9 _ ?_
        clear hK10 K10 hK9 K9
        refine pwp_cond (b := false) (by rfl) (fun h => nomatch h) (fun _ => ?_)
        refine pwp_skip ?_
        refine n_block ?_
        refine n_then ?_
        refine pwx_region 0 [] (by rfl) (fun K11 hK11 => ?_)
        simp (disch := omega) only [go_sem, hX.ne, not_false_eq_true, true_and, hX.len, hX.tk, hX.im, hX.nm, hY.ne, hY.len, hY.tk, hY.im, hY.nm, idx_p20 hX, idx_p21 hX hY]
        refine hK11 _ ?_
        clear hK11 K11
        refine n_then ?_
        refine ⟨_, ?hdec, ⟨1 + 1, ?hf0, rfl, ?heq⟩, ?hok⟩
        case heq => first | rfl | (simp only [St.cut, keep, if_true, if_false, Bool.false_eq_true, List.take_succ_cons, List.take_zero, List.take_nil]; try simp)
        case hf0 => omega
        case hdec => omega
        case hok => refine ⟨rfl, ?_, ?_⟩ <;> first | rfl | (simp [keep, PV.lt, PE.lt, PC.lt, Box.lt, ↓lC_lt]; done) | simp [keep, PV.lt, PE.lt, PC.lt, Box.lt, ↓lC_lt, ↓intC_lt, ↓ratC_lt, ↓u32s_lt]
    · refine pwp_exit ?_
      refine e_then ?_
      refine e_then ?_
      refine e_here ?_
      refine n_then ?_
      refine pwx_sr 0 [] (by rfl) (fun K12 hK12 => ?_)
      simp (disch := omega) only [go_sem, hX.ne, not_false_eq_true, true_and, hX.len, hX.tk, hX.im, hX.nm, hY.ne, hY.len, hY.tk, hY.im, hY.nm, idx_p20 hX, idx_p21 hX hY]
      refine hK12 _ ?_
      clear hK12 K12
      refine pwp_ret ?_
      refine ⟨Or.inr rfl, ?_⟩
      simp (disch := omega) only [go_sem, hX.ne, not_false_eq_true, true_and, hX.len, hX.tk, hX.im, hX.nm, hY.ne, hY.len, hY.tk, hY.im, hY.nm, idx_p20 hX, idx_p21 hX hY]
set_option maxHeartbeats 4000000 in
theorem c_small2_x (X Y : List PC) (hX : PtC X) (h1 : Ret Tryz.prog 58 [.a X, .c (.int .i64 3)] (.e (.c (.bool false)))) :
    Ret Tryz.prog 19 [.c (.sl 2 (X ++ Y))] (.e (.c (.bool false))) := by
  refine ret_of_body (md := {}) Tryz.func19 (by kernel_rfl) rfl ?_
  simp only [Tryz.f19, List.map_cons, List.map_nil, List.length_cons, List.length_nil, Nat.zero_add, Nat.reduceAdd, Nat.reduceSub, List.reduceReplicate, List.cons_append, List.nil_append]
  refine pwx_sr 0 [] (by rfl) (fun K1 hK1 => ?_)
  simp (disch := omega) only [go_sem, hX.ne, not_false_eq_true, true_and, hX.len, hX.tk, hX.im, hX.nm, idx_p20 hX]
  refine hK1 _ ?_
  clear hK1 K1
  refine pwp_seq ?_
  refine pwx_sr 0 [] (by rfl) (fun K2 hK2 => ?_)
  simp (disch := omega) only [go_sem, hX.ne, not_false_eq_true, true_and, hX.len, hX.tk, hX.im, hX.nm, idx_p20 hX]
  refine hK2 _ ?_
  clear hK2 K2
  refine pwp_block ?_
  refine pwp_loopF (false :: false :: true :: false :: false :: true :: true :: true :: false :: false :: false :: false :: false :: false :: false :: []) 0 (fun M s => ∃ u : Nat, (u = 0) ∧ 2 - u = M ∧ s = { slots := .j :: .j :: .e (.c (.bool false)) :: .j :: .j :: .e (.c (.sl 2 (X ++ Y))) :: .e (.c (.int .i64 ((2 : Nat) : Int))) :: .e (.c (.int .i64 (u : Int))) :: .j :: .j :: .j :: .j :: .j :: .j :: .j :: [], st := [] }) (n := 2) rfl ?_ ?_ ?_
  · refine ⟨0, ?_, rfl, ?_⟩
    · rfl
    · first | rfl | (simp only [St.cut, keep, if_true, if_false, Bool.false_eq_true, List.take_succ_cons, List.take_zero, List.take_nil]; try simp)
  · refine ⟨rfl, ?_, ?_⟩ <;> first | rfl | (simp [keep, PV.lt, PE.lt, PC.lt, Box.lt, ↓lC_lt]; done) | simp [keep, PV.lt, PE.lt, PC.lt, Box.lt, ↓lC_lt, ↓intC_lt, ↓ratC_lt, ↓u32s_lt]
  · rintro _ _ ⟨u, hu, rfl, rfl⟩
    subst hu
    refine pwx_sr 0 [] (by rfl) (fun K3 hK3 => ?_)
    simp (disch := omega) only [go_sem, hX.ne, not_false_eq_true, true_and, hX.len, hX.tk, hX.im, hX.nm, idx_p20 hX]
    refine hK3 _ ?_
    clear hK3 K3
    refine pwp_seq ?_
    refine pwp_cond (b := true) (by rfl) (fun _ => ?_) (fun h => nomatch h)
    refine pwp_skip ?_
    refine n_then ?_
    refine pwp_seq ?_
    refine pwp_block ?_
    refine pwx_sr 1 [] (by rfl) (fun K4 hK4 => ?_)
    simp (disch := omega) only [go_sem, hX.ne, not_false_eq_true, true_and, hX.len, hX.tk, hX.im, hX.nm, idx_p20 hX]
    refine hK4 _ ?_
    clear hK4 K4
    refine pwx_sr 0 [] (by rfl) (fun K5 hK5 => ?_)
    refine rgnX_take 2 (fun K6 hK6 => ?_)
    simp (disch := omega) only [go_sem, hX.ne, not_false_eq_true, true_and, hX.len, hX.tk, hX.im, hX.nm, idx_p20 hX]
    refine ⟨_, h1, ?_⟩
    refine hK6 _ ?_
    simp (disch := omega) only [go_sem, hX.ne, not_false_eq_true, true_and, hX.len, hX.tk, hX.im, hX.nm, idx_p20 hX]
    refine hK5 _ ?_
    clear hK6 K6 hK5 K5
    refine pwp_cond (b := true) (by rfl) (fun _ => ?_) (fun h => nomatch h)
    refine pwx_sr 0 [] (by rfl) (fun K7 hK7 => ?_)
    simp (disch := omega) only [go_sem, hX.ne, not_false_eq_true, true_and, hX.len, hX.tk, hX.im, hX.nm, idx_p20 hX]
    refine hK7 _ ?_
    clear hK7 K7
    refine pwp_ret ?_
    refine r_block ?_
    refine r_then ?_
    refine r_then ?_
    refine r_block ?_
    refine r_then ?_
    refine ⟨Or.inr rfl, ?_⟩
    simp (disch := omega) only [go_sem, hX.ne, not_false_eq_true, true_and, hX.len, hX.tk, hX.im, hX.nm, idx_p20 hX]
set_option maxHeartbeats 4000000 in
theorem c_small2_y (X Y : List PC) (hX : PtC X) (hY : PtC Y) (h1 : Ret Tryz.prog 58 [.a X, .c (.int .i64 3)] (.e (.c (.bool true)))) (h2 : Ret Tryz.prog 58 [.a Y, .c (.int .i64 3)] (.e (.c (.bool false)))) :
    Ret Tryz.prog 19 [.c (.sl 2 (X ++ Y))] (.e (.c (.bool false))) := by
  refine ret_of_body (md := {}) Tryz.func19 (by kernel_rfl) rfl ?_
  simp only [Tryz.f19, List.map_cons, List.map_nil, List.length_cons, List.length_nil, Nat.zero_add, Nat.reduceAdd, Nat.reduceSub, List.reduceReplicate, List.cons_append, List.nil_append]
  refine pwx_sr 0 [] (by rfl) (fun K1 hK1 => ?_)
  simp (disch := omega) only [go_sem, hX.ne, not_false_eq_true, true_and, hX.len, hX.tk, hX.im, hX.nm, hY.ne, hY.len, hY.tk, hY.im, hY.nm, idx_p20 hX, idx_p21 hX hY]
  refine hK1 _ ?_
  clear hK1 K1
  refine pwp_seq ?_
  refine pwx_sr 0 [] (by rfl) (fun K2 hK2 => ?_)
  simp (disch := omega) only [go_sem, hX.ne, not_false_eq_true, true_and, hX.len, hX.tk, hX.im, hX.nm, hY.ne, hY.len, hY.tk, hY.im, hY.nm, idx_p20 hX, idx_p21 hX hY]
  refine hK2 _ ?_
  clear hK2 K2
  refine pwp_block ?_
  refine pwp_loopF (false :: false :: true :: false :: false :: true :: true :: true :: false :: false :: false :: false :: false :: false :: false :: []) 0 (fun M s => ∃ u : Nat, (u ≤ 1) ∧ 2 - u = M ∧ s = { slots := .j :: .j :: .e (.c (.bool false)) :: .j :: .j :: .e (.c (.sl 2 (X ++ Y))) :: .e (.c (.int .i64 ((2 : Nat) : Int))) :: .e (.c (.int .i64 (u : Int))) :: .j :: .j :: .j :: .j :: .j :: .j :: .j :: [], st := [] }) (n := 2) rfl ?_ ?_ ?_
  · refine ⟨0, ?_, rfl, ?_⟩
    · omega
    · first | rfl | (simp only [St.cut, keep, if_true, if_false, Bool.false_eq_true, List.take_succ_cons, List.take_zero, List.take_nil]; try simp)
  · refine ⟨rfl, ?_, ?_⟩ <;> first | rfl | (simp [keep, PV.lt, PE.lt, PC.lt, Box.lt, ↓lC_lt]; done) | simp [keep, PV.lt, PE.lt, PC.lt, Box.lt, ↓lC_lt, ↓intC_lt, ↓ratC_lt, ↓u32s_lt]
  · rintro _ _ ⟨u, hu, rfl, rfl⟩
    refine pwx_sr 0 [] (by rfl) (fun K3 hK3 => ?_)
    simp (disch := omega) only [go_sem, hX.ne, not_false_eq_true, true_and, hX.len, hX.tk, hX.im, hX.nm, hY.ne, hY.len, hY.tk, hY.im, hY.nm, idx_p20 hX, idx_p21 hX hY]
    refine hK3 _ ?_
    clear hK3 K3
    refine pwp_seq ?_
    refine pwp_cond (b := true) (by rfl) (fun _ => ?_) (fun h => nomatch h)
    refine pwp_skip ?_
    refine n_then ?_
    refine pwp_seq ?_
    refine pwp_block ?_
    rcases (show u = 0 ∨ u = 1 by omega) with rfl | rfl
    · refine pwx_sr 1 [] (by rfl) (fun K4 hK4 => ?_)
      simp (disch := omega) only [go_sem, hX.ne, not_false_eq_true, true_and, hX.len, hX.tk, hX.im, hX.nm, hY.ne, hY.len, hY.tk, hY.im, hY.nm, idx_p20 hX, idx_p21 hX hY]
      refine hK4 _ ?_
      clear hK4 K4
      refine pwx_sr 0 [] (by rfl) (fun K5 hK5 => ?_)
      refine rgnX_take 2 (fun K6 hK6 => ?_)
      simp (disch := omega) only [go_sem, hX.ne, not_false_eq_true, true_and, hX.len, hX.tk, hX.im, hX.nm, hY.ne, hY.len, hY.tk, hY.im, hY.nm, idx_p20 hX, idx_p21 hX hY]
      first | (refine ⟨_, h1, ?_⟩; refine hK6 _ ?_) | (refine ⟨_, h2, ?_⟩; refine hK6 _ ?_)
      simp (disch := omega) only [go_sem, hX.ne, not_false_eq_true, true_and, hX.len, hX.tk, hX.im, hX.nm, hY.ne, hY.len, hY.tk, hY.im, hY.nm, idx_p20 hX, idx_p21 hX hY]
      refine hK5 _ ?_
      clear hK6 K6 hK5 K5
      refine pwp_cond (b := false) (by rfl) (fun h => nomatch h) (fun _ => ?_)
      refine pwp_skip ?_
      refine n_block ?_
      refine n_then ?_
      refine pwx_region 0 [] (by rfl) (fun K7 hK7 => ?_)
      simp (disch := omega) only [go_sem, hX.ne, not_false_eq_true, true_and, hX.len, hX.tk, hX.im, hX.nm, hY.ne, hY.len, hY.tk, hY.im, hY.nm, idx_p20 hX, idx_p21 hX hY]
      refine hK7 _ ?_
      clear hK7 K7
      refine n_then ?_
      refine ⟨_, ?hdec, ⟨0 + 1, ?hf0, rfl, ?heq⟩, ?hok⟩
      case heq => first | rfl | (simp only [St.cut, keep, if_true, if_false, Bool.false_eq_true, List.take_succ_cons, List.take_zero, List.take_nil]; try simp)
      case hf0 => omega
      case hdec => omega
      case hok => refine ⟨rfl, ?_, ?_⟩ <;> first | rfl | (simp [keep, PV.lt, PE.lt, PC.lt, Box.lt, ↓lC_lt]; done) | simp [keep, PV.lt, PE.lt, PC.lt, Box.lt, ↓lC_lt, ↓intC_lt, ↓ratC_lt, ↓u32s_lt]
    · refine pwx_sr 1 [] (by rfl) (fun K8 hK8 => ?_)
      simp (disch := omega) only [go_sem, hX.ne, not_false_eq_true, true_and, hX.len, hX.tk, hX.im, hX.nm, hY.ne, hY.len, hY.tk, hY.im, hY.nm, idx_p20 hX, idx_p21 hX hY]
      refine hK8 _ ?_
      clear hK8 K8
      refine pwx_sr 0 [] (by rfl) (fun K9 hK9 => ?_)
      refine rgnX_take 2 (fun K10 hK10 => ?_)
      simp (disch := omega) only [go_sem, hX.ne, not_false_eq_true, true_and, hX.len, hX.tk, hX.im, hX.nm, hY.ne, hY.len, hY.tk, hY.im, hY.nm, idx_p20 hX, idx_p21 hX hY]
      first | (refine ⟨_, h1, ?_⟩; refine hK10 _ ?_) | (refine ⟨_, h2, ?_⟩; refine hK10 _ ?_)
      simp (disch := omega) only [go_sem, hX.ne, not_false_eq_true, true_and, hX.len, hX.tk, hX.im, hX.nm, hY.ne, hY.len, hY.tk, hY.im, hY.nm, idx_p20 hX, idx_p21 hX hY]
      refine hK9 _ ?_
      clear hK10 K10 hK9 K9
      refine pwp_cond (b := true) (by rfl) (fun _ => ?_) (fun h => nomatch h)
      refine pwx_sr 0 [] (by rfl) (fun K11 hK11 => ?_)
      simp (disch := omega) only [go_sem, hX.ne, not_false_eq_true, true_and, hX.len, hX.tk, hX.im, hX.nm, hY.ne, hY.len, hY.tk, hY.im, hY.nm, idx_p20 hX, idx_p21 hX hY]
      refine hK11 _ ?_
      clear hK11 K11
      refine pwp_ret ?_
      refine r_block ?_
      refine r_then ?_
      refine r_then ?_
      refine r_block ?_
      refine r_then ?_
      refine ⟨Or.inr rfl, ?_⟩
      simp (disch := omega) only [go_sem, hX.ne, not_false_eq_true, true_and, hX.len, hX.tk, hX.im, hX.nm, hY.ne, hY.len, hY.tk, hY.im, hY.nm, idx_p20 hX, idx_p21 hX hY]
set_option maxHeartbeats 4000000 in
theorem c_smallVec_f (n0 n1 n2 n3 : Bool) (l0 l1 l2 l3 : List Nat) (hs : ¬ (smlR 3 n0 l0 n1 l1 = true ∧ smlR 3 n2 l2 n3 l3 = true)) :
    Ret Tryz.prog 23 [.a [.bool n0, lC l0, .bool n1, lC l1, .bool n2, lC l2, .bool n3, lC l3]] (.e (.c (.bool false))) := by
  refine ret_of_body (md := {}) Tryz.func23 (by kernel_rfl) rfl ?_
  simp only [Tryz.f23, List.map_cons, List.map_nil, List.length_cons, List.length_nil, Nat.zero_add, Nat.reduceAdd, Nat.reduceSub, List.reduceReplicate, List.cons_append, List.nil_append]
  refine pwx_sr 1 [] (by rfl) (fun K1 hK1 => ?_)
  simp (disch := omega) only [go_sem]
  refine hK1 _ ?_
  clear hK1 K1
  rcases h1 : smlR 3 n0 l0 n1 l1 with _ | _
  · refine pwx_sr 0 [some 3, some 4, some 5, some 6, some 7, some 8, some 9, some 10, some 2] (by rfl) (fun K2 hK2 => ?_)
    refine rgnX_take 3 (fun K3 hK3 => ?_)
    simp (disch := omega) only [go_sem, h1]
    refine ⟨_, c_swarfref02_Small _ _ _ _ 3 (by omega), ?_⟩
    refine hK3 _ ?_
    refine rgnX_take 4 (fun K4 hK4 => ?_)
    simp (disch := omega) only [go_sem, h1]
    first | refine ⟨_, c_swarfref02_Small _ _ _ _ 3 (by omega), ?_⟩ | skip
    refine hK4 _ ?_
    simp (disch := omega) only [go_sem, h1]
    refine hK2 _ ?_
    clear hK4 K4 hK3 K3 hK2 K2
    refine pwp_ret ?_
    refine ⟨Or.inr rfl, ?_⟩
    simp (disch := omega) only [go_sem]
  · have h2 : smlR 3 n2 l2 n3 l3 = false := by simpa [h1] using hs
    refine pwx_sr 0 [some 3, some 4, some 5, some 6, some 7, some 8, some 9, some 10, some 2] (by rfl) (fun K5 hK5 => ?_)
    refine rgnX_take 3 (fun K6 hK6 => ?_)
    simp (disch := omega) only [go_sem, h1, h2]
    refine ⟨_, c_swarfref02_Small _ _ _ _ 3 (by omega), ?_⟩
    refine hK6 _ ?_
    refine rgnX_take 4 (fun K7 hK7 => ?_)
    simp (disch := omega) only [go_sem, h1, h2]
    first | refine ⟨_, c_swarfref02_Small _ _ _ _ 3 (by omega), ?_⟩ | skip
    refine hK7 _ ?_
    simp (disch := omega) only [go_sem, h1, h2]
    refine hK5 _ ?_
    clear hK7 K7 hK6 K6 hK5 K5
    refine pwp_ret ?_
    refine ⟨Or.inr rfl, ?_⟩
    simp (disch := omega) only [go_sem]
set_option maxHeartbeats 4000000 in
theorem c_smallVec_t (v w : Rat) [SzR v 3] [SzR w 3] :
    Ret Tryz.prog 23 [.a (ratC (v) ++ ratC (w))] (.e (.c (.bool true))) := by
  refine ret_of_body (md := {}) Tryz.func23 (by kernel_rfl) rfl ?_
  simp only [Tryz.f23, List.map_cons, List.map_nil, List.length_cons, List.length_nil, Nat.zero_add, Nat.reduceAdd, Nat.reduceSub, List.reduceReplicate, List.cons_append, List.nil_append]
  refine pwx_sr 1 [] (by rfl) (fun K1 hK1 => ?_)
  simp (disch := omega) only [go_sem]
  refine hK1 _ ?_
  clear hK1 K1
  refine pwx_sr 0 [some 3, some 4, some 5, some 6, some 7, some 8, some 9, some 10, some 2] (by rfl) (fun K2 hK2 => ?_)
  refine rgnX_take 3 (fun K3 hK3 => ?_)
  simp (disch := omega) only [go_sem]
  refine ⟨_, c_swarfref02_SmallQ _ 3 (by omega), ?_⟩
  refine hK3 _ ?_
  refine rgnX_take 4 (fun K4 hK4 => ?_)
  simp (disch := omega) only [go_sem]
  first | refine ⟨_, c_swarfref02_SmallQ _ 3 (by omega), ?_⟩ | skip
  refine hK4 _ ?_
  simp (disch := omega) only [go_sem]
  refine hK2 _ ?_
  clear hK4 K4 hK3 K3 hK2 K2
  refine pwp_ret ?_
  refine ⟨Or.inr rfl, ?_⟩
  simp (disch := omega) only [go_sem]
theorem smallVec_or (n0 n1 n2 n3 : Bool) (l0 l1 l2 l3 : List Nat) : Ret Tryz.prog 23 [.a [.bool n0, lC l0, .bool n1, lC l1, .bool n2, lC l2, .bool n3, lC l3]] (.e (.c (.bool false))) ∨ ∃ v w : Rat, SzR v 3 ∧ SzR w 3 ∧ ([.bool n0, lC l0, .bool n1, lC l1, .bool n2, lC l2, .bool n3, lC l3] : List PC) = ratC v ++ ratC w ∧ Ret Tryz.prog 23 [.a (ratC (v) ++ ratC (w))] (.e (.c (.bool true))) := by
  by_cases hs : smlR 3 n0 l0 n1 l1 = true ∧ smlR 3 n2 l2 n3 l3 = true
  · obtain ⟨h1, h2⟩ := hs
    obtain ⟨v, hv, rfl, rfl, rfl, rfl⟩ := smlR_true h1
    obtain ⟨w, hw, rfl, rfl, rfl, rfl⟩ := smlR_true h2
    exact .inr ⟨v, w, hv, hw, rfl, c_smallVec_t v w⟩
  · exact .inl (c_smallVec_f n0 n1 n2 n3 l0 l1 l2 l3 hs)
theorem small5_or (n0 n1 n2 n3 n4 n5 n6 n7 n8 n9 : Bool) (l0 l1 l2 l3 l4 l5 l6 l7 l8 l9 : List Nat) : Ret Tryz.prog 58 [.a [.bool n0, lC l0, .bool n1, lC l1, .bool n2, lC l2, .bool n3, lC l3, .bool n4, lC l4, .bool n5, lC l5, .bool n6, lC l6, .bool n7, lC l7, .bool n8, lC l8, .bool n9, lC l9], .c (.int .i64 3)] (.e (.c (.bool false))) ∨ ∃ a b d e c : Rat, SzR a 3 ∧ SzR b 3 ∧ SzR d 3 ∧ SzR e 3 ∧ SzR c 3 ∧ vldP b e c = true ∧ ([.bool n0, lC l0, .bool n1, lC l1, .bool n2, lC l2, .bool n3, lC l3, .bool n4, lC l4, .bool n5, lC l5, .bool n6, lC l6, .bool n7, lC l7, .bool n8, lC l8, .bool n9, lC l9] : List PC) = ratC a ++ (ratC b ++ (ratC d ++ (ratC e ++ ratC c))) ∧ Ret Tryz.prog 58 [.a (ratC a ++ (ratC b ++ (ratC d ++ (ratC e ++ ratC c)))), .c (.int .i64 3)] (.e (.c (.bool true))) := by
  by_cases hs : smlR 3 n0 l0 n1 l1 = true ∧ smlR 3 n4 l4 n5 l5 = true ∧ smlR 3 n2 l2 n3 l3 = true ∧ smlR 3 n6 l6 n7 l7 = true ∧ smlR 3 n8 l8 n9 l9 = true
  · obtain ⟨h1, h2, h3, h4, h5⟩ := hs
    obtain ⟨a, ha, rfl, rfl, rfl, rfl⟩ := smlR_true h1
    obtain ⟨b, hb, rfl, rfl, rfl, rfl⟩ := smlR_true h3
    obtain ⟨d, hd, rfl, rfl, rfl, rfl⟩ := smlR_true h2
    obtain ⟨e, he, rfl, rfl, rfl, rfl⟩ := smlR_true h4
    obtain ⟨c, hc, rfl, rfl, rfl, rfl⟩ := smlR_true h5
    have h := c_swarfref07_Small a b d e c 3 (by omega)
    rcases hv : vldP b e c with _ | _
    · rw [hv] at h; exact .inl h
    · rw [hv] at h; exact .inr ⟨a, b, d, e, c, ha, hb, hd, he, hc, hv, rfl, h⟩
  · exact .inl (c_swarfref07_Small_f n0 n1 n2 n3 n4 n5 n6 n7 n8 n9 l0 l1 l2 l3 l4 l5 l6 l7 l8 l9 3 (by omega) hs)

end Go.Proofs.YtbadkjfjdkbgfaaGreat

set_option linter.unusedSimpArgs false
set_option linter.unusedVariables false
set_option maxRecDepth 20000
namespace Go.Proofs.YtbadkjfjdkbgfaaGreat
open Go Go.PL Go.RL
set_option maxHeartbeats 4000000 in
theorem c_swarfref07_Of_t (x1 x2 x3 x4 : Int) (z d : Nat) (h1 : -32768 ≤ x1) (h1' : x1 < 32768) (h2 : -32768 ≤ x2) (h2' : x2 < 32768) (h3 : -32768 ≤ x3) (h3' : x3 < 32768) (h4 : -32768 ≤ x4) (h4' : x4 < 32768) (hz : z < 65536) (hd : d < 256) (hs : sqB ((z : Int) : Rat) = true) :
    Ret Tryz.prog 31 [.a [.int .i16 x1, .int .i16 x2, .int .i16 x3, .int .i16 x4, .int .u16 (z : Int), .int .u8 (d : Int)]] (.e (.a (ratC (Rat.divInt x1 ((d + 1 : Nat) : Int) + Rat.divInt x2 ((d + 1 : Nat) : Int) * rtR ((z : Int) : Rat)) ++ (ratC (0) ++ (ratC (Rat.divInt x3 ((d + 1 : Nat) : Int) + Rat.divInt x4 ((d + 1 : Nat) : Int) * rtR ((z : Int) : Rat)) ++ (ratC (0) ++ ratC (pC 0 0 (rK 0 0 0)))))))) := by
  refine ret_of_body (md := {}) Tryz.func31 (by kernel_rfl) rfl ?_
  simp only [Tryz.f31, List.map_cons, List.map_nil, List.length_cons, List.length_nil, Nat.zero_add, Nat.reduceAdd, Nat.reduceSub, List.reduceReplicate, List.cons_append, List.nil_append]
  haveI : SzI x1 3 := szi_lit (by show x1.natAbs < 1000000000000000000000000000; omega)
  haveI : SzI x2 3 := szi_lit (by show x2.natAbs < 1000000000000000000000000000; omega)
  haveI : SzI x3 3 := szi_lit (by show x3.natAbs < 1000000000000000000000000000; omega)
  haveI : SzI x4 3 := szi_lit (by show x4.natAbs < 1000000000000000000000000000; omega)
  haveI : SzI ((d + 1 : Nat) : Int) 3 := szi_lit (by show d + 1 < 1000000000000000000000000000; omega)
  haveI : SzR ((z : Int) : Rat) 3 := szr_i64 (by omega) (by omega)
  haveI : SzR (Rat.divInt x1 ((d + 1 : Nat) : Int)) 3 := divInt_sz3 (by omega)
  haveI : SzR (Rat.divInt x2 ((d + 1 : Nat) : Int)) 3 := divInt_sz3 (by omega)
  haveI : SzR (Rat.divInt x3 ((d + 1 : Nat) : Int)) 3 := divInt_sz3 (by omega)
  haveI : SzR (Rat.divInt x4 ((d + 1 : Nat) : Int)) 3 := divInt_sz3 (by omega)
  have hc0 : ¬ ((z : Int) : Rat) < 0 := by rw [Rat.not_lt]; exact_mod_cast Int.natCast_nonneg z
  refine pwx_sr 2 [] (by rfl) (fun K1 hK1 => ?_)
  simp (disch := omega) only [go_sem]
  refine hK1 _ ?_
  clear hK1 K1
  refine pwx_sr 0 [] (by rfl) (fun K2 hK2 => ?_)
  simp (disch := omega) only [go_sem]
  refine hK2 _ ?_
  clear hK2 K2
  refine pwx_sr 1 [] (by rfl) (fun K3 hK3 => ?_)
  refine rgnX_take 4 (fun K4 hK4 => ?_)
  simp (disch := omega) only [go_sem]
  refine ⟨_, c_swarfref02_FromInt64 _ (by omega) (by omega), ?_⟩
  refine hK4 _ ?_
  simp (disch := omega) only [go_sem]
  refine hK3 _ ?_
  clear hK4 K4 hK3 K3
  refine pwx_sd Tryz.mixed 1 [] (by rfl) [] (by kernel_rfl) (by simp) (fun K5 hK5 => ?_)
  refine rgnX_take 5 (fun K6 hK6 => ?_)
  simp (disch := omega) only [go_sem]
  refine ⟨_, c_swarfref02_Frac _ _ (by omega) (by omega) (by omega) (by omega) (by omega), ?_⟩
  refine hK6 _ ?_
  refine rgnX_take 5 (fun K7 hK7 => ?_)
  simp (disch := omega) only [go_sem]
  refine ⟨_, c_swarfref02_Frac _ _ (by omega) (by omega) (by omega) (by omega) (by omega), ?_⟩
  refine hK7 _ ?_
  refine rgnX_take 2 (fun K8 hK8 => ?_)
  simp (disch := omega) only [go_sem]
  refine ⟨_, c_swarfref03_Make_t _ _ _ (by omega) hc0 hs, ?_⟩
  refine hK8 _ ?_
  simp (disch := omega) only [go_sem]
  refine hK5 _ ?_
  clear hK8 K8 hK7 K7 hK6 K6 hK5 K5
  refine pwx_sd Tryz.mixed 1 [] (by rfl) [] (by kernel_rfl) (by simp) (fun K9 hK9 => ?_)
  refine rgnX_take 5 (fun K10 hK10 => ?_)
  simp (disch := omega) only [go_sem]
  refine ⟨_, c_swarfref02_Frac _ _ (by omega) (by omega) (by omega) (by omega) (by omega), ?_⟩
  refine hK10 _ ?_
  refine rgnX_take 5 (fun K11 hK11 => ?_)
  simp (disch := omega) only [go_sem]
  refine ⟨_, c_swarfref02_Frac _ _ (by omega) (by omega) (by omega) (by omega) (by omega), ?_⟩
  refine hK11 _ ?_
  refine rgnX_take 2 (fun K12 hK12 => ?_)
  simp (disch := omega) only [go_sem]
  refine ⟨_, c_swarfref03_Make_t _ _ _ (by omega) hc0 hs, ?_⟩
  refine hK12 _ ?_
  simp (disch := omega) only [go_sem]
  refine hK9 _ ?_
  clear hK12 K12 hK11 K11 hK10 K10 hK9 K9
  refine pwx_sr 1 [] (by rfl) (fun K13 hK13 => ?_)
  refine rgnX_take 3 (fun K14 hK14 => ?_)
  simp (disch := omega) only [go_sem]
  refine ⟨_, c_swarfref07_Make_t _ _ _ _ _ _ (by omega) (.inl rfl), ?_⟩
  refine hK14 _ ?_
  simp (disch := omega) only [go_sem]
  refine hK13 _ ?_
  clear hK14 K14 hK13 K13
  refine pwx_sr 0 [] (by rfl) (fun K15 hK15 => ?_)
  simp (disch := omega) only [go_sem]
  refine hK15 _ ?_
  clear hK15 K15
  refine pwp_ret ?_
  refine ⟨Or.inr rfl, ?_⟩
  simp (disch := omega) only [go_sem]
  all_goals skip
set_option maxHeartbeats 4000000 in
theorem c_swarfref07_Of_f (x1 x2 x3 x4 : Int) (z d : Nat) (h1 : -32768 ≤ x1) (h1' : x1 < 32768) (h2 : -32768 ≤ x2) (h2' : x2 < 32768) (h3 : -32768 ≤ x3) (h3' : x3 < 32768) (h4 : -32768 ≤ x4) (h4' : x4 < 32768) (hz : z < 65536) (hd : d < 256) (hs : sqB ((z : Int) : Rat) = false) :
    Ret Tryz.prog 31 [.a [.int .i16 x1, .int .i16 x2, .int .i16 x3, .int .i16 x4, .int .u16 (z : Int), .int .u8 (d : Int)]] (.e (.a (ratC (Rat.divInt x1 ((d + 1 : Nat) : Int)) ++ (ratC (r3B (Rat.divInt x2 ((d + 1 : Nat) : Int)) ((z : Int) : Rat)) ++ (ratC (Rat.divInt x3 ((d + 1 : Nat) : Int)) ++ (ratC (r3B (Rat.divInt x4 ((d + 1 : Nat) : Int)) ((z : Int) : Rat)) ++ ratC (pC (r3B (Rat.divInt x2 ((d + 1 : Nat) : Int)) ((z : Int) : Rat)) (r3B (Rat.divInt x4 ((d + 1 : Nat) : Int)) ((z : Int) : Rat)) (rK (r3B (Rat.divInt x2 ((d + 1 : Nat) : Int)) ((z : Int) : Rat)) (r3C (Rat.divInt x2 ((d + 1 : Nat) : Int)) ((z : Int) : Rat)) (r3C (Rat.divInt x4 ((d + 1 : Nat) : Int)) ((z : Int) : Rat)))))))))) := by
  refine ret_of_body (md := {}) Tryz.func31 (by kernel_rfl) rfl ?_
  simp only [Tryz.f31, List.map_cons, List.map_nil, List.length_cons, List.length_nil, Nat.zero_add, Nat.reduceAdd, Nat.reduceSub, List.reduceReplicate, List.cons_append, List.nil_append]
  haveI : SzI x1 3 := szi_lit (by show x1.natAbs < 1000000000000000000000000000; omega)
  haveI : SzI x2 3 := szi_lit (by show x2.natAbs < 1000000000000000000000000000; omega)
  haveI : SzI x3 3 := szi_lit (by show x3.natAbs < 1000000000000000000000000000; omega)
  haveI : SzI x4 3 := szi_lit (by show x4.natAbs < 1000000000000000000000000000; omega)
  haveI : SzI ((d + 1 : Nat) : Int) 3 := szi_lit (by show d + 1 < 1000000000000000000000000000; omega)
  haveI : SzR ((z : Int) : Rat) 3 := szr_i64 (by omega) (by omega)
  haveI : SzR (Rat.divInt x1 ((d + 1 : Nat) : Int)) 3 := divInt_sz3 (by omega)
  haveI : SzR (Rat.divInt x2 ((d + 1 : Nat) : Int)) 3 := divInt_sz3 (by omega)
  haveI : SzR (Rat.divInt x3 ((d + 1 : Nat) : Int)) 3 := divInt_sz3 (by omega)
  haveI : SzR (Rat.divInt x4 ((d + 1 : Nat) : Int)) 3 := divInt_sz3 (by omega)
  have hc0 : ¬ ((z : Int) : Rat) < 0 := by rw [Rat.not_lt]; exact_mod_cast Int.natCast_nonneg z
  refine pwx_sr 2 [] (by rfl) (fun K1 hK1 => ?_)
  simp (disch := omega) only [go_sem]
  refine hK1 _ ?_
  clear hK1 K1
  refine pwx_sr 0 [] (by rfl) (fun K2 hK2 => ?_)
  simp (disch := omega) only [go_sem]
  refine hK2 _ ?_
  clear hK2 K2
  refine pwx_sr 1 [] (by rfl) (fun K3 hK3 => ?_)
  refine rgnX_take 4 (fun K4 hK4 => ?_)
  simp (disch := omega) only [go_sem]
  refine ⟨_, c_swarfref02_FromInt64 _ (by omega) (by omega), ?_⟩
  refine hK4 _ ?_
  simp (disch := omega) only [go_sem]
  refine hK3 _ ?_
  clear hK4 K4 hK3 K3
  refine pwx_sd Tryz.mixed 1 [] (by rfl) [] (by kernel_rfl) (by simp) (fun K5 hK5 => ?_)
  refine rgnX_take 5 (fun K6 hK6 => ?_)
  simp (disch := omega) only [go_sem]
  refine ⟨_, c_swarfref02_Frac _ _ (by omega) (by omega) (by omega) (by omega) (by omega), ?_⟩
  refine hK6 _ ?_
  refine rgnX_take 5 (fun K7 hK7 => ?_)
  simp (disch := omega) only [go_sem]
  refine ⟨_, c_swarfref02_Frac _ _ (by omega) (by omega) (by omega) (by omega) (by omega), ?_⟩
  refine hK7 _ ?_
  refine rgnX_take 2 (fun K8 hK8 => ?_)
  simp (disch := omega) only [go_sem]
  refine ⟨_, c_swarfref03_Make_f _ _ _ (by omega) hc0 hs, ?_⟩
  refine hK8 _ ?_
  simp (disch := omega) only [go_sem]
  refine hK5 _ ?_
  clear hK8 K8 hK7 K7 hK6 K6 hK5 K5
  refine pwx_sd Tryz.mixed 1 [] (by rfl) [] (by kernel_rfl) (by simp) (fun K9 hK9 => ?_)
  refine rgnX_take 5 (fun K10 hK10 => ?_)
  simp (disch := omega) only [go_sem]
  refine ⟨_, c_swarfref02_Frac _ _ (by omega) (by omega) (by omega) (by omega) (by omega), ?_⟩
  refine hK10 _ ?_
  refine rgnX_take 5 (fun K11 hK11 => ?_)
  simp (disch := omega) only [go_sem]
  refine ⟨_, c_swarfref02_Frac _ _ (by omega) (by omega) (by omega) (by omega) (by omega), ?_⟩
  refine hK11 _ ?_
  refine rgnX_take 2 (fun K12 hK12 => ?_)
  simp (disch := omega) only [go_sem]
  refine ⟨_, c_swarfref03_Make_f _ _ _ (by omega) hc0 hs, ?_⟩
  refine hK12 _ ?_
  simp (disch := omega) only [go_sem]
  refine hK9 _ ?_
  clear hK12 K12 hK11 K11 hK10 K10 hK9 K9
  refine pwx_sr 1 [] (by rfl) (fun K13 hK13 => ?_)
  refine rgnX_take 3 (fun K14 hK14 => ?_)
  simp (disch := omega) only [go_sem]
  refine ⟨_, c_swarfref07_Make_t _ _ _ _ _ _ (by omega) of_hm, ?_⟩
  refine hK14 _ ?_
  simp (disch := omega) only [go_sem]
  refine hK13 _ ?_
  clear hK14 K14 hK13 K13
  refine pwx_sr 0 [] (by rfl) (fun K15 hK15 => ?_)
  simp (disch := omega) only [go_sem]
  refine hK15 _ ?_
  clear hK15 K15
  refine pwp_ret ?_
  refine ⟨Or.inr rfl, ?_⟩
  simp (disch := omega) only [go_sem]
  all_goals skip

end Go.Proofs.YtbadkjfjdkbgfaaGreat

set_option linter.unusedSimpArgs false
set_option linter.unusedVariables false
set_option maxRecDepth 20000
namespace Go.Proofs.YtbadkjfjdkbgfaaGreat
open Go Go.PL Go.RL
theorem of_or (x1 x2 x3 x4 x5 x6 : Int) (hx1 : -32768 ≤ x1) (hx1' : x1 < 32768) (hx2 : -32768 ≤ x2) (hx2' : x2 < 32768) (hx3 : -32768 ≤ x3) (hx3' : x3 < 32768) (hx4 : -32768 ≤ x4) (hx4' : x4 < 32768) (hx5 : 0 ≤ x5) (hx5' : x5 < 65536) (hx6 : 0 ≤ x6) (hx6' : x6 < 256) : ∃ a b d e c : Rat, SzR a 20 ∧ SzR b 20 ∧ SzR d 20 ∧ SzR e 20 ∧ SzR c 20 ∧ 0 ≤ c ∧ Ret Tryz.prog 31 [.a [.int .i16 x1, .int .i16 x2, .int .i16 x3, .int .i16 x4, .int .u16 x5, .int .u8 x6]] (.e (.a (ratC (a) ++ (ratC (b) ++ (ratC (d) ++ (ratC (e) ++ ratC (c))))))) := by
  obtain ⟨z, rfl⟩ := Int.eq_ofNat_of_zero_le hx5
  obtain ⟨n, rfl⟩ := Int.eq_ofNat_of_zero_le hx6
  have hz : z < 65536 := by omega
  have hd : n < 256 := by omega
  haveI : SzI x1 3 := szi_lit (by show x1.natAbs < 1000000000000000000000000000; omega)
  haveI : SzI x2 3 := szi_lit (by show x2.natAbs < 1000000000000000000000000000; omega)
  haveI : SzI x3 3 := szi_lit (by show x3.natAbs < 1000000000000000000000000000; omega)
  haveI : SzI x4 3 := szi_lit (by show x4.natAbs < 1000000000000000000000000000; omega)
  haveI : SzI ((n + 1 : Nat) : Int) 3 := szi_lit (by show n + 1 < 1000000000000000000000000000; omega)
  haveI : SzR ((z : Int) : Rat) 3 := szr_i64 (by omega) (by omega)
  haveI : SzR (Rat.divInt x1 ((n + 1 : Nat) : Int)) 3 := divInt_sz3 (by omega)
  haveI : SzR (Rat.divInt x2 ((n + 1 : Nat) : Int)) 3 := divInt_sz3 (by omega)
  haveI : SzR (Rat.divInt x3 ((n + 1 : Nat) : Int)) 3 := divInt_sz3 (by omega)
  haveI : SzR (Rat.divInt x4 ((n + 1 : Nat) : Int)) 3 := divInt_sz3 (by omega)
  have hc0 : 0 ≤ ((z : Int) : Rat) := by exact_mod_cast Int.natCast_nonneg z
  rcases hs : sqB ((z : Int) : Rat) with _ | _
  · exact ⟨_, _, _, _, _, (inferInstance : SzR _ _).mono (by omega), (inferInstance : SzR _ _).mono (by omega), (inferInstance : SzR _ _).mono (by omega), (inferInstance : SzR _ _).mono (by omega), (inferInstance : SzR _ _).mono (by omega),
      pC_nn (rK_nn (r3C_nn hc0) (r3C_nn hc0)), c_swarfref07_Of_f x1 x2 x3 x4 z n hx1 hx1' hx2 hx2' hx3 hx3' hx4 hx4' hz hd hs⟩
  · exact ⟨_, _, _, _, _, (inferInstance : SzR _ _).mono (by omega), (inferInstance : SzR _ _).mono (by omega), (inferInstance : SzR _ _).mono (by omega), (inferInstance : SzR _ _).mono (by omega), (inferInstance : SzR _ _).mono (by omega),
      pC_nn (rK_nn Rat.le_refl Rat.le_refl), c_swarfref07_Of_t x1 x2 x3 x4 z n hx1 hx1' hx2 hx2' hx3 hx3' hx4 hx4' hz hd hs⟩
set_option maxHeartbeats 4000000 in
theorem w_PointOrder_f (x1 x2 x3 x4 x5 x6 : Int) (y1 y2 y3 y4 y5 y6 : Int) (z1 z2 z3 z4 z5 z6 : Int) (m0 m1 m2 m3 : Bool) (o0 o1 o2 o3 : List Nat) (h1 : Ret Tryz.prog 23 [.a [.bool m0, lC o0, .bool m1, lC o1, .bool m2, lC o2, .bool m3, lC o3]] (.e (.c (.bool false)))) :
    Ret Tryz.prog 6 [.a [.int .i16 x1, .int .i16 x2, .int .i16 x3, .int .i16 x4, .int .u16 x5, .int .u8 x6, .int .i16 y1, .int .i16 y2, .int .i16 y3, .int .i16 y4, .int .u16 y5, .int .u8 y6, .int .i16 z1, .int .i16 z2, .int .i16 z3, .int .i16 z4, .int .u16 z5, .int .u8 z6], .a [.bool m0, lC o0, .bool m1, lC o1, .bool m2, lC o2, .bool m3, lC o3]] (.e (.c (.bool true))) := by
  refine ret_of_body (md := {}) Tryz.func6 (by kernel_rfl) rfl ?_
  simp only [Tryz.f6, List.map_cons, List.map_nil, List.length_cons, List.length_nil, Nat.zero_add, Nat.reduceAdd, Nat.reduceSub, List.reduceReplicate, List.cons_append, List.nil_append]
  refine pwx_sr 2 [] (by rfl) (fun K1 hK1 => ?_)
  simp (disch := omega) only [go_sem]
  refine hK1 _ ?_
  clear hK1 K1
  refine pwp_seq ?_
  refine pwx_sr 0 [some 11, some 12, some 13, some 14, some 15, some 16, some 17] (by rfl) (fun K2 hK2 => ?_)
  refine rgnX_take 1 (fun K3 hK3 => ?_)
  simp (disch := omega) only [go_sem]
  refine ⟨_, c_swarflaw07_awake, ?_⟩
  refine hK3 _ ?_
  refine rgnX_take 4 (fun K4 hK4 => ?_)
  simp (disch := omega) only [go_sem]
  first | refine ⟨_, h1, ?_⟩ | skip
  refine hK4 _ ?_
  simp (disch := omega) only [go_sem]
  refine hK2 _ ?_
  clear hK4 K4 hK3 K3 hK2 K2
  refine pwp_cond (b := true) (by rfl) (fun _ => ?_) (fun h => nomatch h)
  refine pwx_sr 0 [] (by rfl) (fun K5 hK5 => ?_)
  refine rgnX_take 1 (fun K6 hK6 => ?_)
  simp (disch := omega) only [go_sem]
  refine ⟨_, c_swarflaw07_awake, ?_⟩
  refine hK6 _ ?_
  simp (disch := omega) only [go_sem]
  refine hK5 _ ?_
  clear hK6 K6 hK5 K5
  refine pwp_ret ?_
  refine r_then ?_
  refine ⟨Or.inr rfl, ?_⟩
  simp (disch := omega) only [go_sem]
set_option maxHeartbeats 4000000 in
theorem w_PointOrder_t (x1 x2 x3 x4 x5 x6 : Int) (y1 y2 y3 y4 y5 y6 : Int) (z1 z2 z3 z4 z5 z6 : Int) (a b d e c a' b' d' e' c' a2 b2 d2 e2 c2 : Rat) [SzR a 20] [SzR b 20] [SzR d 20] [SzR e 20] [SzR c 20] [SzR a' 20] [SzR b' 20] [SzR d' 20] [SzR e' 20] [SzR c' 20] [SzR a2 20] [SzR b2 20] [SzR d2 20] [SzR e2 20] [SzR c2 20] (v w : Rat) [SzR v 3] [SzR w 3] (hc : 0 ≤ c) (hc' : 0 ≤ c') (hc2 : 0 ≤ c2) (p1 : Ret Tryz.prog 31 [.a [.int .i16 x1, .int .i16 x2, .int .i16 x3, .int .i16 x4, .int .u16 x5, .int .u8 x6]] (.e (.a (ratC (a) ++ (ratC (b) ++ (ratC (d) ++ (ratC (e) ++ ratC (c)))))))) (p2 : Ret Tryz.prog 31 [.a [.int .i16 y1, .int .i16 y2, .int .i16 y3, .int .i16 y4, .int .u16 y5, .int .u8 y6]] (.e (.a (ratC (a') ++ (ratC (b') ++ (ratC (d') ++ (ratC (e') ++ ratC (c')))))))) (p3 : Ret Tryz.prog 31 [.a [.int .i16 z1, .int .i16 z2, .int .i16 z3, .int .i16 z4, .int .u16 z5, .int .u8 z6]] (.e (.a (ratC (a2) ++ (ratC (b2) ++ (ratC (d2) ++ (ratC (e2) ++ ratC (c2)))))))) (h1 : Ret Tryz.prog 23 [.a (ratC v ++ ratC w)] (.e (.c (.bool true)))) :
    Ret Tryz.prog 6 [.a [.int .i16 x1, .int .i16 x2, .int .i16 x3, .int .i16 x4, .int .u16 x5, .int .u8 x6, .int .i16 y1, .int .i16 y2, .int .i16 y3, .int .i16 y4, .int .u16 y5, .int .u8 y6, .int .i16 z1, .int .i16 z2, .int .i16 z3, .int .i16 z4, .int .u16 z5, .int .u8 z6], .a (ratC (v) ++ ratC (w))] (.e (.c (.bool true))) := by
  refine ret_of_body (md := {}) Tryz.func6 (by kernel_rfl) rfl ?_
  simp only [Tryz.f6, List.map_cons, List.map_nil, List.length_cons, List.length_nil, Nat.zero_add, Nat.reduceAdd, Nat.reduceSub, List.reduceReplicate, List.cons_append, List.nil_append]
  refine pwx_sr 2 [] (by rfl) (fun K1 hK1 => ?_)
  simp (disch := omega) only [go_sem, eq_self]
  refine hK1 _ ?_
  clear hK1 K1
  refine pwp_seq ?_
  refine pwx_sr 0 [some 11, some 12, some 13, some 14, some 15, some 16, some 17] (by rfl) (fun K2 hK2 => ?_)
  refine rgnX_take 1 (fun K3 hK3 => ?_)
  simp (disch := omega) only [go_sem, eq_self]
  refine ⟨_, c_swarflaw07_awake, ?_⟩
  refine hK3 _ ?_
  refine rgnX_take 4 (fun K4 hK4 => ?_)
  simp (disch := omega) only [go_sem, eq_self]
  first | refine ⟨_, h1, ?_⟩ | skip
  refine hK4 _ ?_
  simp (disch := omega) only [go_sem, eq_self]
  refine hK2 _ ?_
  clear hK4 K4 hK3 K3 hK2 K2
  refine pwp_cond (b := false) (by rfl) (fun h => nomatch h) (fun _ => ?_)
  refine pwp_skip ?_
  refine n_then ?_
  refine pwx_sd Tryz.mixed 3 [] (by rfl) [] (by kernel_rfl) (by simp) (fun K5 hK5 => ?_)
  refine rgnX_take 3 (fun K6 hK6 => ?_)
  simp (disch := omega) only [go_sem, eq_self, idx_a0, idx_a1, idx_a2]
  refine ⟨_, p1, ?_⟩
  refine hK6 _ ?_
  refine rgnX_take 3 (fun K7 hK7 => ?_)
  simp (disch := omega) only [go_sem, eq_self, idx_a0, idx_a1, idx_a2]
  refine ⟨_, p2, ?_⟩
  refine hK7 _ ?_
  refine rgnX_take 3 (fun K8 hK8 => ?_)
  simp (disch := omega) only [go_sem, eq_self, idx_a0, idx_a1, idx_a2]
  refine ⟨_, p3, ?_⟩
  refine hK8 _ ?_
  simp (disch := omega) only [go_sem, eq_self, idx_a0, idx_a1, idx_a2]
  refine hK5 _ ?_
  clear hK8 K8 hK7 K7 hK6 K6 hK5 K5
  refine pwx_sd Tryz.mixed 0 [] (by rfl) [] (by kernel_rfl) (by simp) (fun K9 hK9 => ?_)
  refine rgnX_take 3 (fun K10 hK10 => ?_)
  simp (disch := omega) only [go_sem, eq_self]
  refine ⟨_, c_point_Compare _ _ _ _ _ _ _ _ _ _ (by omega) (by assumption) (by assumption), ?_⟩
  refine hK10 _ ?_
  refine rgnX_take 3 (fun K11 hK11 => ?_)
  simp (disch := omega) only [go_sem, eq_self]
  refine ⟨_, c_point_Compare _ _ _ _ _ _ _ _ _ _ (by omega) (by assumption) (by assumption), ?_⟩
  refine hK11 _ ?_
  refine rgnX_take 3 (fun K12 hK12 => ?_)
  simp (disch := omega) only [go_sem, eq_self]
  refine ⟨_, c_point_Compare _ _ _ _ _ _ _ _ _ _ (by omega) (by assumption) (by assumption), ?_⟩
  refine hK12 _ ?_
  simp (disch := omega) only [go_sem, eq_self]
  refine hK9 _ ?_
  clear hK12 K12 hK11 K11 hK10 K10 hK9 K9
  refine pwp_seq ?_
  rcases five5 (a := cmpP a b d e c a' b' d' e' c') (b := cmpP a' b' d' e' c' a2 b2 d2 e2 c2) (c := cmpP a b d e c a2 b2 d2 e2 c2) (cmpP_tr hc hc' hc2) with t1 | ⟨t1, t2⟩ | ⟨t1, t2, t3, t4⟩ | ⟨t1, t2, t3, t4, t5⟩ | ⟨t1, t2, t3, t4, t5⟩
  · refine pwx_sr 0 [some 37, some 38, some 39, some 40, some 41, some 42, some 43, some 44, some 45, some 46, some 47, some 48, some 49, some 50, some 51, some 52, some 53, some 54, some 55, some 56, some 57, some 58] (by rfl) (fun K13 hK13 => ?_)
    simp (disch := omega) only [go_sem, eq_self, ile_T, ile_F, ilt_T, ilt_F, ieq_F]
    refine hK13 _ ?_
    clear hK13 K13
    refine pwp_cond (b := false) (by rfl) (fun h => nomatch h) (fun _ => ?_)
    refine pwp_skip ?_
    refine n_then ?_
    refine pwx_sd Tryz.mixed 0 [] (by rfl) [] (by kernel_rfl) (by simp) (fun K14 hK14 => ?_)
    refine rgnX_take 3 (fun K15 hK15 => ?_)
    simp (disch := omega) only [go_sem, eq_self, cmpP_t]
    refine ⟨_, c_point_Translate _ _ _ _ _ _ _ (by omega), ?_⟩
    refine hK15 _ ?_
    refine rgnX_take 3 (fun K16 hK16 => ?_)
    simp (disch := omega) only [go_sem, eq_self, cmpP_t]
    refine ⟨_, c_point_Translate _ _ _ _ _ _ _ (by omega), ?_⟩
    refine hK16 _ ?_
    refine rgnX_take 1 (fun K17 hK17 => ?_)
    simp (disch := omega) only [go_sem, eq_self, cmpP_t]
    refine ⟨_, c_point_Compare _ _ _ _ _ _ _ _ _ _ (by omega) (by assumption) (by assumption), ?_⟩
    refine hK17 _ ?_
    simp (disch := omega) only [go_sem, eq_self, cmpP_t]
    refine hK14 _ ?_
    clear hK17 K17 hK16 K16 hK15 K15 hK14 K14
    refine pwp_ret ?_
    refine ⟨Or.inr rfl, ?_⟩
    simp (disch := omega) only [go_sem, eq_self]
    all_goals skip
  · refine pwx_sr 0 [some 37, some 38, some 39, some 40, some 41, some 42, some 43, some 44, some 45, some 46, some 47, some 48, some 49, some 50, some 51, some 52, some 53, some 54, some 55, some 56, some 57, some 58] (by rfl) (fun K18 hK18 => ?_)
    simp (disch := omega) only [go_sem, eq_self, ile_T, ile_F, ilt_T, ilt_F, ieq_F]
    refine hK18 _ ?_
    clear hK18 K18
    refine pwp_cond (b := false) (by rfl) (fun h => nomatch h) (fun _ => ?_)
    refine pwp_skip ?_
    refine n_then ?_
    refine pwx_sd Tryz.mixed 0 [] (by rfl) [] (by kernel_rfl) (by simp) (fun K19 hK19 => ?_)
    refine rgnX_take 3 (fun K20 hK20 => ?_)
    simp (disch := omega) only [go_sem, eq_self, cmpP_t]
    refine ⟨_, c_point_Translate _ _ _ _ _ _ _ (by omega), ?_⟩
    refine hK20 _ ?_
    refine rgnX_take 3 (fun K21 hK21 => ?_)
    simp (disch := omega) only [go_sem, eq_self, cmpP_t]
    refine ⟨_, c_point_Translate _ _ _ _ _ _ _ (by omega), ?_⟩
    refine hK21 _ ?_
    refine rgnX_take 1 (fun K22 hK22 => ?_)
    simp (disch := omega) only [go_sem, eq_self, cmpP_t]
    refine ⟨_, c_point_Compare _ _ _ _ _ _ _ _ _ _ (by omega) (by assumption) (by assumption), ?_⟩
    refine hK22 _ ?_
    simp (disch := omega) only [go_sem, eq_self, cmpP_t]
    refine hK19 _ ?_
    clear hK22 K22 hK21 K21 hK20 K20 hK19 K19
    refine pwp_ret ?_
    refine ⟨Or.inr rfl, ?_⟩
    simp (disch := omega) only [go_sem, eq_self]
    all_goals skip
  · refine pwx_sr 0 [some 37, some 38, some 39, some 40, some 41, some 42, some 43, some 44, some 45, some 46, some 47, some 48, some 49, some 50, some 51, some 52, some 53, some 54, some 55, some 56, some 57, some 58] (by rfl) (fun K23 hK23 => ?_)
    simp (disch := omega) only [go_sem, eq_self, ile_T, ile_F, ilt_T, ilt_F, ieq_F]
    refine hK23 _ ?_
    clear hK23 K23
    refine pwp_cond (b := false) (by rfl) (fun h => nomatch h) (fun _ => ?_)
    refine pwp_skip ?_
    refine n_then ?_
    refine pwx_sd Tryz.mixed 0 [] (by rfl) [] (by kernel_rfl) (by simp) (fun K24 hK24 => ?_)
    refine rgnX_take 3 (fun K25 hK25 => ?_)
    simp (disch := omega) only [go_sem, eq_self, cmpP_t]
    refine ⟨_, c_point_Translate _ _ _ _ _ _ _ (by omega), ?_⟩
    refine hK25 _ ?_
    refine rgnX_take 3 (fun K26 hK26 => ?_)
    simp (disch := omega) only [go_sem, eq_self, cmpP_t]
    refine ⟨_, c_point_Translate _ _ _ _ _ _ _ (by omega), ?_⟩
    refine hK26 _ ?_
    refine rgnX_take 1 (fun K27 hK27 => ?_)
    simp (disch := omega) only [go_sem, eq_self, cmpP_t]
    refine ⟨_, c_point_Compare _ _ _ _ _ _ _ _ _ _ (by omega) (by assumption) (by assumption), ?_⟩
    refine hK27 _ ?_
    simp (disch := omega) only [go_sem, eq_self, cmpP_t]
    refine hK24 _ ?_
    clear hK27 K27 hK26 K26 hK25 K25 hK24 K24
    refine pwp_ret ?_
    refine ⟨Or.inr rfl, ?_⟩
    simp (disch := omega) only [go_sem, eq_self]
    all_goals skip
  · refine pwx_sr 0 [some 37, some 38, some 39, some 40, some 41, some 42, some 43, some 44, some 45, some 46, some 47, some 48, some 49, some 50, some 51, some 52, some 53, some 54, some 55, some 56, some 57, some 58] (by rfl) (fun K28 hK28 => ?_)
    simp (disch := omega) only [go_sem, eq_self, ile_T, ile_F, ilt_T, ilt_F, ieq_F]
    refine hK28 _ ?_
    clear hK28 K28
    refine pwp_cond (b := false) (by rfl) (fun h => nomatch h) (fun _ => ?_)
    refine pwp_skip ?_
    refine n_then ?_
    refine pwx_sd Tryz.mixed 0 [] (by rfl) [] (by kernel_rfl) (by simp) (fun K29 hK29 => ?_)
    refine rgnX_take 3 (fun K30 hK30 => ?_)
    simp (disch := omega) only [go_sem, eq_self, cmpP_t]
    refine ⟨_, c_point_Translate _ _ _ _ _ _ _ (by omega), ?_⟩
    refine hK30 _ ?_
    refine rgnX_take 3 (fun K31 hK31 => ?_)
    simp (disch := omega) only [go_sem, eq_self, cmpP_t]
    refine ⟨_, c_point_Translate _ _ _ _ _ _ _ (by omega), ?_⟩
    refine hK31 _ ?_
    refine rgnX_take 1 (fun K32 hK32 => ?_)
    simp (disch := omega) only [go_sem, eq_self, cmpP_t]
    refine ⟨_, c_point_Compare _ _ _ _ _ _ _ _ _ _ (by omega) (by assumption) (by assumption), ?_⟩
    refine hK32 _ ?_
    simp (disch := omega) only [go_sem, eq_self, cmpP_t]
    refine hK29 _ ?_
    clear hK32 K32 hK31 K31 hK30 K30 hK29 K29
    refine pwp_ret ?_
    refine ⟨Or.inr rfl, ?_⟩
    simp (disch := omega) only [go_sem, eq_self]
    all_goals skip
  · refine pwx_sr 0 [some 37, some 38, some 39, some 40, some 41, some 42, some 43, some 44, some 45, some 46, some 47, some 48, some 49, some 50, some 51, some 52, some 53, some 54, some 55, some 56, some 57, some 58] (by rfl) (fun K33 hK33 => ?_)
    simp (disch := omega) only [go_sem, eq_self, ile_T, ile_F, ilt_T, ilt_F, ieq_F]
    refine hK33 _ ?_
    clear hK33 K33
    refine pwp_cond (b := false) (by rfl) (fun h => nomatch h) (fun _ => ?_)
    refine pwp_skip ?_
    refine n_then ?_
    refine pwx_sd Tryz.mixed 0 [] (by rfl) [] (by kernel_rfl) (by simp) (fun K34 hK34 => ?_)
    refine rgnX_take 3 (fun K35 hK35 => ?_)
    simp (disch := omega) only [go_sem, eq_self, cmpP_t]
    refine ⟨_, c_point_Translate _ _ _ _ _ _ _ (by omega), ?_⟩
    refine hK35 _ ?_
    refine rgnX_take 3 (fun K36 hK36 => ?_)
    simp (disch := omega) only [go_sem, eq_self, cmpP_t]
    refine ⟨_, c_point_Translate _ _ _ _ _ _ _ (by omega), ?_⟩
    refine hK36 _ ?_
    refine rgnX_take 1 (fun K37 hK37 => ?_)
    simp (disch := omega) only [go_sem, eq_self, cmpP_t]
    refine ⟨_, c_point_Compare _ _ _ _ _ _ _ _ _ _ (by omega) (by assumption) (by assumption), ?_⟩
    refine hK37 _ ?_
    simp (disch := omega) only [go_sem, eq_self, cmpP_t]
    refine hK34 _ ?_
    clear hK37 K37 hK36 K36 hK35 K35 hK34 K34
    refine pwp_ret ?_
    refine ⟨Or.inr rfl, ?_⟩
    simp (disch := omega) only [go_sem, eq_self]
    all_goals skip

end Go.Proofs.YtbadkjfjdkbgfaaGreat

set_option linter.unusedSimpArgs false
set_option linter.unusedVariables false
set_option maxRecDepth 20000
namespace Go.Proofs.YtbadkjfjdkbgfaaGreat
open Go Go.PL Go.RL
theorem r_PointOrder (x1 x2 x3 x4 x5 x6 : Int) (y1 y2 y3 y4 y5 y6 : Int) (z1 z2 z3 z4 z5 z6 : Int) (hx1 : -32768 ≤ x1) (hx1' : x1 < 32768) (hx2 : -32768 ≤ x2) (hx2' : x2 < 32768) (hx3 : -32768 ≤ x3) (hx3' : x3 < 32768) (hx4 : -32768 ≤ x4) (hx4' : x4 < 32768) (hx5 : 0 ≤ x5) (hx5' : x5 < 65536) (hx6 : 0 ≤ x6) (hx6' : x6 < 256) (hy1 : -32768 ≤ y1) (hy1' : y1 < 32768) (hy2 : -32768 ≤ y2) (hy2' : y2 < 32768) (hy3 : -32768 ≤ y3) (hy3' : y3 < 32768) (hy4 : -32768 ≤ y4) (hy4' : y4 < 32768) (hy5 : 0 ≤ y5) (hy5' : y5 < 65536) (hy6 : 0 ≤ y6) (hy6' : y6 < 256) (hz1 : -32768 ≤ z1) (hz1' : z1 < 32768) (hz2 : -32768 ≤ z2) (hz2' : z2 < 32768) (hz3 : -32768 ≤ z3) (hz3' : z3 < 32768) (hz4 : -32768 ≤ z4) (hz4' : z4 < 32768) (hz5 : 0 ≤ z5) (hz5' : z5 < 65536) (hz6 : 0 ≤ z6) (hz6' : z6 < 256) (m0 m1 m2 m3 : Bool) (o0 o1 o2 o3 : List Nat) : Ret Tryz.prog 6 [.a [.int .i16 x1, .int .i16 x2, .int .i16 x3, .int .i16 x4, .int .u16 x5, .int .u8 x6, .int .i16 y1, .int .i16 y2, .int .i16 y3, .int .i16 y4, .int .u16 y5, .int .u8 y6, .int .i16 z1, .int .i16 z2, .int .i16 z3, .int .i16 z4, .int .u16 z5, .int .u8 z6], .a [.bool m0, lC o0, .bool m1, lC o1, .bool m2, lC o2, .bool m3, lC o3]] (.e (.c (.bool true))) := by
  rcases smallVec_or m0 m1 m2 m3 o0 o1 o2 o3 with h1 | ⟨v, w, hv, hw, q1, h1⟩
  · exact w_PointOrder_f _ _ _ _ _ _ _ _ _ _ _ _ _ _ _ _ _ _ _ _ _ _ _ _ _ _ h1
  obtain ⟨a, b, d, e, c, i1, i2, i3, i4, i5, hc, p1⟩ := of_or x1 x2 x3 x4 x5 x6 hx1 hx1' hx2 hx2' hx3 hx3' hx4 hx4' hx5 hx5' hx6 hx6'
  obtain ⟨a', b', d', e', c', j1, j2, j3, j4, j5, hc', p2⟩ := of_or y1 y2 y3 y4 y5 y6 hy1 hy1' hy2 hy2' hy3 hy3' hy4 hy4' hy5 hy5' hy6 hy6'
  obtain ⟨a2, b2, d2, e2, c2, k1, k2, k3, k4, k5, hc2, p3⟩ := of_or z1 z2 z3 z4 z5 z6 hz1 hz1' hz2 hz2' hz3 hz3' hz4 hz4' hz5 hz5' hz6 hz6'
  rw [q1]
  exact w_PointOrder_t x1 x2 x3 x4 x5 x6 y1 y2 y3 y4 y5 y6 z1 z2 z3 z4 z5 z6 a b d e c a' b' d' e' c' a2 b2 d2 e2 c2 v w hc hc' hc2 p1 p2 p3 h1

end Go.Proofs.YtbadkjfjdkbgfaaGreat
