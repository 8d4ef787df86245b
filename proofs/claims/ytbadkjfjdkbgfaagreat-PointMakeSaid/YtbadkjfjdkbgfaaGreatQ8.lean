/- The walk of the examples of the chapter on points. Conditions: none.
   The arguments of a row, opened: what they stand for. Conditions: none (lemmas).
   The arguments of the rows, opened. Conditions: none.
   Statements on points, in plain terms. Conditions: each lemma's own.
   The walk of a statement on points. Conditions: none.
   A statement on points, for all arguments. Conditions: none. -/
import Derived.WalkKit
import Derived.ProofKit
import Derived.OpenShut
import Derived.ChangeOld
import Derived.Below
import Derived.Carry
import Derived.ChangeSlices
import Derived.Test.YtbadkjfjdkbgfaaGreatRows
import Derived.Test.YtbadkjfjdkbgfaaGreatQ7
set_option linter.unusedVariables false
set_option linter.unusedSimpArgs false
set_option linter.unusedSimpArgs false
set_option linter.unusedVariables false
set_option maxRecDepth 20000
namespace Go.Proofs.YtbadkjfjdkbgfaaGreat
open Go Go.PL Go.RL
set_option maxHeartbeats 4000000 in
theorem c_swarflaw07_root_t (x y : Int) (z : Nat) (hx0 : -32768 ≤ x) (hx1 : x < 32768) (hy0 : -32768 ≤ y) (hy1 : y < 32768) (hz : z < 65536) (hs : sqB (Rat.divInt (z : Int) ((0 + 1 : Nat) : Int)) = true) :
    Ret Tryz.prog 48 [.c (.int .i16 x), .c (.int .i16 y), .c (.int .u16 (z : Int))] (.e (.a (ratC (Rat.divInt x ((0 + 1 : Nat) : Int) + Rat.divInt y ((0 + 1 : Nat) : Int) * rtR (Rat.divInt (z : Int) ((0 + 1 : Nat) : Int))) ++ (ratC (0) ++ ratC (0))))) := by
  refine ret_of_body (md := {}) Tryz.func48 (by kernel_rfl) rfl ?_
  simp only [Tryz.f48, List.map_cons, List.map_nil, List.length_cons, List.length_nil, Nat.zero_add, Nat.reduceAdd, Nat.reduceSub, List.reduceReplicate, List.cons_append, List.nil_append]
  refine pwx_sr 1 [] (by rfl) (fun K1 hK1 => ?_)
  simp (disch := omega) only [go_sem]
  refine hK1 _ ?_
  clear hK1 K1
  refine pwx_sr 0 [] (by rfl) (fun K2 hK2 => ?_)
  refine rgnX_take 5 (fun K3 hK3 => ?_)
  simp (disch := omega) only [go_sem]
  refine ⟨_, c_swarfref03_Of_t x y z 0 0 0 (by omega) (by omega) (by omega) (by omega) (by omega) (by omega) (by omega) (by omega) hs, ?_⟩
  refine hK3 _ ?_
  simp (disch := omega) only [go_sem]
  refine hK2 _ ?_
  clear hK3 K3 hK2 K2
  refine pwp_ret ?_
  refine ⟨Or.inr rfl, ?_⟩
  simp (disch := omega) only [go_sem]
set_option maxHeartbeats 4000000 in
theorem c_swarflaw07_root_f (x y : Int) (z : Nat) (hx0 : -32768 ≤ x) (hx1 : x < 32768) (hy0 : -32768 ≤ y) (hy1 : y < 32768) (hz : z < 65536) (hs : sqB (Rat.divInt (z : Int) ((0 + 1 : Nat) : Int)) = false) :
    Ret Tryz.prog 48 [.c (.int .i16 x), .c (.int .i16 y), .c (.int .u16 (z : Int))] (.e (.a (ratC (Rat.divInt x ((0 + 1 : Nat) : Int)) ++ (ratC (r3B (Rat.divInt y ((0 + 1 : Nat) : Int)) (Rat.divInt (z : Int) ((0 + 1 : Nat) : Int))) ++ ratC (r3C (Rat.divInt y ((0 + 1 : Nat) : Int)) (Rat.divInt (z : Int) ((0 + 1 : Nat) : Int))))))) := by
  refine ret_of_body (md := {}) Tryz.func48 (by kernel_rfl) rfl ?_
  simp only [Tryz.f48, List.map_cons, List.map_nil, List.length_cons, List.length_nil, Nat.zero_add, Nat.reduceAdd, Nat.reduceSub, List.reduceReplicate, List.cons_append, List.nil_append]
  refine pwx_sr 1 [] (by rfl) (fun K1 hK1 => ?_)
  simp (disch := omega) only [go_sem]
  refine hK1 _ ?_
  clear hK1 K1
  refine pwx_sr 0 [] (by rfl) (fun K2 hK2 => ?_)
  refine rgnX_take 5 (fun K3 hK3 => ?_)
  simp (disch := omega) only [go_sem]
  refine ⟨_, c_swarfref03_Of_f x y z 0 0 0 (by omega) (by omega) (by omega) (by omega) (by omega) (by omega) (by omega) (by omega) hs, ?_⟩
  refine hK3 _ ?_
  simp (disch := omega) only [go_sem]
  refine hK2 _ ?_
  clear hK3 K3 hK2 K2
  refine pwp_ret ?_
  refine ⟨Or.inr rfl, ?_⟩
  simp (disch := omega) only [go_sem]
theorem ex_root_1_1_2 : Ret Tryz.prog 48 [.c (.int .i16 1), .c (.int .i16 1), .c (.int .u16 2)] (.e (.a (ratC (1) ++ (ratC (1) ++ ratC (2))))) := by
  have h := c_swarflaw07_root_f 1 1 2 (by omega) (by omega) (by omega) (by omega) (by omega) (by decide +kernel)
  have e0 : (Rat.divInt 1 ((0 + 1 : Nat) : Int)) = 1 := by decide +kernel
  have e1 : r3B (Rat.divInt 1 ((0 + 1 : Nat) : Int)) (Rat.divInt ((2 : Nat) : Int) ((0 + 1 : Nat) : Int)) = 1 := by decide +kernel
  have e2 : r3C (Rat.divInt 1 ((0 + 1 : Nat) : Int)) (Rat.divInt ((2 : Nat) : Int) ((0 + 1 : Nat) : Int)) = 2 := by decide +kernel
  rw [e1, e2, e0] at h
  exact h
theorem ex_root_3_0_0 : Ret Tryz.prog 48 [.c (.int .i16 3), .c (.int .i16 0), .c (.int .u16 0)] (.e (.a (ratC (3) ++ (ratC (0) ++ ratC (0))))) := by
  have h := c_swarflaw07_root_t 3 0 0 (by omega) (by omega) (by omega) (by omega) (by omega) (by decide +kernel)
  rw [show (Rat.divInt 3 ((0 + 1 : Nat) : Int) + Rat.divInt 0 ((0 + 1 : Nat) : Int) * rtR (Rat.divInt ((0 : Nat) : Int) ((0 + 1 : Nat) : Int))) = 3 from by decide +kernel] at h
  exact h
theorem ex_root_0_1_8 : Ret Tryz.prog 48 [.c (.int .i16 0), .c (.int .i16 1), .c (.int .u16 8)] (.e (.a (ratC (0) ++ (ratC (1) ++ ratC (8))))) := by
  have h := c_swarflaw07_root_f 0 1 8 (by omega) (by omega) (by omega) (by omega) (by omega) (by decide +kernel)
  have e0 : (Rat.divInt 0 ((0 + 1 : Nat) : Int)) = 0 := by decide +kernel
  have e1 : r3B (Rat.divInt 1 ((0 + 1 : Nat) : Int)) (Rat.divInt ((8 : Nat) : Int) ((0 + 1 : Nat) : Int)) = 1 := by decide +kernel
  have e2 : r3C (Rat.divInt 1 ((0 + 1 : Nat) : Int)) (Rat.divInt ((8 : Nat) : Int) ((0 + 1 : Nat) : Int)) = 8 := by decide +kernel
  rw [e1, e2, e0] at h
  exact h
theorem ex_root_0_0_0 : Ret Tryz.prog 48 [.c (.int .i16 0), .c (.int .i16 0), .c (.int .u16 0)] (.e (.a (ratC (0) ++ (ratC (0) ++ ratC (0))))) := by
  have h := c_swarflaw07_root_t 0 0 0 (by omega) (by omega) (by omega) (by omega) (by omega) (by decide +kernel)
  rw [show (Rat.divInt 0 ((0 + 1 : Nat) : Int) + Rat.divInt 0 ((0 + 1 : Nat) : Int) * rtR (Rat.divInt ((0 : Nat) : Int) ((0 + 1 : Nat) : Int))) = 0 from by decide +kernel] at h
  exact h
theorem ex_root_0_2_2 : Ret Tryz.prog 48 [.c (.int .i16 0), .c (.int .i16 2), .c (.int .u16 2)] (.e (.a (ratC (0) ++ (ratC (2) ++ ratC (2))))) := by
  have h := c_swarflaw07_root_f 0 2 2 (by omega) (by omega) (by omega) (by omega) (by omega) (by decide +kernel)
  have e0 : (Rat.divInt 0 ((0 + 1 : Nat) : Int)) = 0 := by decide +kernel
  have e1 : r3B (Rat.divInt 2 ((0 + 1 : Nat) : Int)) (Rat.divInt ((2 : Nat) : Int) ((0 + 1 : Nat) : Int)) = 2 := by decide +kernel
  have e2 : r3C (Rat.divInt 2 ((0 + 1 : Nat) : Int)) (Rat.divInt ((2 : Nat) : Int) ((0 + 1 : Nat) : Int)) = 2 := by decide +kernel
  rw [e1, e2, e0] at h
  exact h
theorem ex_root_0_1_2 : Ret Tryz.prog 48 [.c (.int .i16 0), .c (.int .i16 1), .c (.int .u16 2)] (.e (.a (ratC (0) ++ (ratC (1) ++ ratC (2))))) := by
  have h := c_swarflaw07_root_f 0 1 2 (by omega) (by omega) (by omega) (by omega) (by omega) (by decide +kernel)
  have e0 : (Rat.divInt 0 ((0 + 1 : Nat) : Int)) = 0 := by decide +kernel
  have e1 : r3B (Rat.divInt 1 ((0 + 1 : Nat) : Int)) (Rat.divInt ((2 : Nat) : Int) ((0 + 1 : Nat) : Int)) = 1 := by decide +kernel
  have e2 : r3C (Rat.divInt 1 ((0 + 1 : Nat) : Int)) (Rat.divInt ((2 : Nat) : Int) ((0 + 1 : Nat) : Int)) = 2 := by decide +kernel
  rw [e1, e2, e0] at h
  exact h
theorem ex_root_0_1_3 : Ret Tryz.prog 48 [.c (.int .i16 0), .c (.int .i16 1), .c (.int .u16 3)] (.e (.a (ratC (0) ++ (ratC (1) ++ ratC (3))))) := by
  have h := c_swarflaw07_root_f 0 1 3 (by omega) (by omega) (by omega) (by omega) (by omega) (by decide +kernel)
  have e0 : (Rat.divInt 0 ((0 + 1 : Nat) : Int)) = 0 := by decide +kernel
  have e1 : r3B (Rat.divInt 1 ((0 + 1 : Nat) : Int)) (Rat.divInt ((3 : Nat) : Int) ((0 + 1 : Nat) : Int)) = 1 := by decide +kernel
  have e2 : r3C (Rat.divInt 1 ((0 + 1 : Nat) : Int)) (Rat.divInt ((3 : Nat) : Int) ((0 + 1 : Nat) : Int)) = 3 := by decide +kernel
  rw [e1, e2, e0] at h
  exact h
theorem ex_root_5_2_2 : Ret Tryz.prog 48 [.c (.int .i16 5), .c (.int .i16 (-2)), .c (.int .u16 2)] (.e (.a (ratC (5) ++ (ratC ((-2)) ++ ratC (2))))) := by
  have h := c_swarflaw07_root_f 5 (-2) 2 (by omega) (by omega) (by omega) (by omega) (by omega) (by decide +kernel)
  have e0 : (Rat.divInt 5 ((0 + 1 : Nat) : Int)) = 5 := by decide +kernel
  have e1 : r3B (Rat.divInt (-2) ((0 + 1 : Nat) : Int)) (Rat.divInt ((2 : Nat) : Int) ((0 + 1 : Nat) : Int)) = (-2) := by decide +kernel
  have e2 : r3C (Rat.divInt (-2) ((0 + 1 : Nat) : Int)) (Rat.divInt ((2 : Nat) : Int) ((0 + 1 : Nat) : Int)) = 2 := by decide +kernel
  rw [e1, e2, e0] at h
  exact h
set_option maxHeartbeats 4000000 in
theorem c_swarflaw07_awake :
    Ret Tryz.prog 11 [] (.e (.c (.bool true))) := by
  refine ret_of_body (md := {}) Tryz.func11 (by kernel_rfl) rfl ?_
  simp only [Tryz.f11, List.map_cons, List.map_nil, List.length_cons, List.length_nil, Nat.zero_add, Nat.reduceAdd, Nat.reduceSub, List.reduceReplicate, List.cons_append, List.nil_append]
  refine pwx_sr 0 [] (by rfl) (fun K1 hK1 => ?_)
  simp (disch := omega) only [go_sem, ex_k1, ex_k2, ex_k3, ex_k4, ex_p1, ex_p2, ex_p3, ex_p4, ex_r1, ex_r2, ex_r3, ex_c1, ex_c2, ex_s1, ex_s2, ex_i0, ex_i1, ex_i3, ex_im, eq_self]
  refine hK1 _ ?_
  clear hK1 K1
  refine pwx_sr 1 [] (by rfl) (fun K2 hK2 => ?_)
  refine rgnX_take 1 (fun K3 hK3 => ?_)
  simp (disch := omega) only [go_sem, ex_k1, ex_k2, ex_k3, ex_k4, ex_p1, ex_p2, ex_p3, ex_p4, ex_r1, ex_r2, ex_r3, ex_c1, ex_c2, ex_s1, ex_s2, ex_i0, ex_i1, ex_i3, ex_im, eq_self]
  refine ⟨_, ex_root_1_1_2, ?_⟩
  refine hK3 _ ?_
  refine rgnX_take 1 (fun K4 hK4 => ?_)
  simp (disch := omega) only [go_sem, ex_k1, ex_k2, ex_k3, ex_k4, ex_p1, ex_p2, ex_p3, ex_p4, ex_r1, ex_r2, ex_r3, ex_c1, ex_c2, ex_s1, ex_s2, ex_i0, ex_i1, ex_i3, ex_im, eq_self]
  refine ⟨_, ex_root_3_0_0, ?_⟩
  refine hK4 _ ?_
  refine rgnX_take 1 (fun K5 hK5 => ?_)
  simp (disch := omega) only [go_sem, ex_k1, ex_k2, ex_k3, ex_k4, ex_p1, ex_p2, ex_p3, ex_p4, ex_r1, ex_r2, ex_r3, ex_c1, ex_c2, ex_s1, ex_s2, ex_i0, ex_i1, ex_i3, ex_im, eq_self]
  refine ⟨_, c_point_Make_t _ _ _ _ _ _ (by omega) (by decide), ?_⟩
  refine hK5 _ ?_
  simp (disch := omega) only [go_sem, ex_k1, ex_k2, ex_k3, ex_k4, ex_p1, ex_p2, ex_p3, ex_p4, ex_r1, ex_r2, ex_r3, ex_c1, ex_c2, ex_s1, ex_s2, ex_i0, ex_i1, ex_i3, ex_im, eq_self]
  refine hK2 _ ?_
  clear hK5 K5 hK4 K4 hK3 K3 hK2 K2
  refine pwx_sr 1 [] (by rfl) (fun K6 hK6 => ?_)
  refine rgnX_take 1 (fun K7 hK7 => ?_)
  simp (disch := omega) only [go_sem, ex_k1, ex_k2, ex_k3, ex_k4, ex_p1, ex_p2, ex_p3, ex_p4, ex_r1, ex_r2, ex_r3, ex_c1, ex_c2, ex_s1, ex_s2, ex_i0, ex_i1, ex_i3, ex_im, eq_self]
  refine ⟨_, ex_root_0_1_8, ?_⟩
  refine hK7 _ ?_
  refine rgnX_take 1 (fun K8 hK8 => ?_)
  simp (disch := omega) only [go_sem, ex_k1, ex_k2, ex_k3, ex_k4, ex_p1, ex_p2, ex_p3, ex_p4, ex_r1, ex_r2, ex_r3, ex_c1, ex_c2, ex_s1, ex_s2, ex_i0, ex_i1, ex_i3, ex_im, eq_self]
  refine ⟨_, ex_root_0_0_0, ?_⟩
  refine hK8 _ ?_
  refine rgnX_take 1 (fun K9 hK9 => ?_)
  simp (disch := omega) only [go_sem, ex_k1, ex_k2, ex_k3, ex_k4, ex_p1, ex_p2, ex_p3, ex_p4, ex_r1, ex_r2, ex_r3, ex_c1, ex_c2, ex_s1, ex_s2, ex_i0, ex_i1, ex_i3, ex_im, eq_self]
  refine ⟨_, c_point_Make_t _ _ _ _ _ _ (by omega) (by decide), ?_⟩
  refine hK9 _ ?_
  simp (disch := omega) only [go_sem, ex_k1, ex_k2, ex_k3, ex_k4, ex_p1, ex_p2, ex_p3, ex_p4, ex_r1, ex_r2, ex_r3, ex_c1, ex_c2, ex_s1, ex_s2, ex_i0, ex_i1, ex_i3, ex_im, eq_self]
  refine hK6 _ ?_
  clear hK9 K9 hK8 K8 hK7 K7 hK6 K6
  refine pwx_sr 1 [] (by rfl) (fun K10 hK10 => ?_)
  refine rgnX_take 1 (fun K11 hK11 => ?_)
  simp (disch := omega) only [go_sem, ex_k1, ex_k2, ex_k3, ex_k4, ex_p1, ex_p2, ex_p3, ex_p4, ex_r1, ex_r2, ex_r3, ex_c1, ex_c2, ex_s1, ex_s2, ex_i0, ex_i1, ex_i3, ex_im, eq_self]
  refine ⟨_, ex_root_0_2_2, ?_⟩
  refine hK11 _ ?_
  refine rgnX_take 1 (fun K12 hK12 => ?_)
  simp (disch := omega) only [go_sem, ex_k1, ex_k2, ex_k3, ex_k4, ex_p1, ex_p2, ex_p3, ex_p4, ex_r1, ex_r2, ex_r3, ex_c1, ex_c2, ex_s1, ex_s2, ex_i0, ex_i1, ex_i3, ex_im, eq_self]
  refine ⟨_, ex_root_0_0_0, ?_⟩
  refine hK12 _ ?_
  refine rgnX_take 1 (fun K13 hK13 => ?_)
  simp (disch := omega) only [go_sem, ex_k1, ex_k2, ex_k3, ex_k4, ex_p1, ex_p2, ex_p3, ex_p4, ex_r1, ex_r2, ex_r3, ex_c1, ex_c2, ex_s1, ex_s2, ex_i0, ex_i1, ex_i3, ex_im, eq_self]
  refine ⟨_, c_point_Make_t _ _ _ _ _ _ (by omega) (by decide), ?_⟩
  refine hK13 _ ?_
  simp (disch := omega) only [go_sem, ex_k1, ex_k2, ex_k3, ex_k4, ex_p1, ex_p2, ex_p3, ex_p4, ex_r1, ex_r2, ex_r3, ex_c1, ex_c2, ex_s1, ex_s2, ex_i0, ex_i1, ex_i3, ex_im, eq_self]
  refine hK10 _ ?_
  clear hK13 K13 hK12 K12 hK11 K11 hK10 K10
  refine pwx_sr 1 [] (by rfl) (fun K14 hK14 => ?_)
  refine rgnX_take 1 (fun K15 hK15 => ?_)
  simp (disch := omega) only [go_sem, ex_k1, ex_k2, ex_k3, ex_k4, ex_p1, ex_p2, ex_p3, ex_p4, ex_r1, ex_r2, ex_r3, ex_c1, ex_c2, ex_s1, ex_s2, ex_i0, ex_i1, ex_i3, ex_im, eq_self]
  refine ⟨_, ex_root_0_1_2, ?_⟩
  refine hK15 _ ?_
  refine rgnX_take 1 (fun K16 hK16 => ?_)
  simp (disch := omega) only [go_sem, ex_k1, ex_k2, ex_k3, ex_k4, ex_p1, ex_p2, ex_p3, ex_p4, ex_r1, ex_r2, ex_r3, ex_c1, ex_c2, ex_s1, ex_s2, ex_i0, ex_i1, ex_i3, ex_im, eq_self]
  refine ⟨_, ex_root_0_1_2, ?_⟩
  refine hK16 _ ?_
  refine rgnX_take 1 (fun K17 hK17 => ?_)
  simp (disch := omega) only [go_sem, ex_k1, ex_k2, ex_k3, ex_k4, ex_p1, ex_p2, ex_p3, ex_p4, ex_r1, ex_r2, ex_r3, ex_c1, ex_c2, ex_s1, ex_s2, ex_i0, ex_i1, ex_i3, ex_im, eq_self]
  refine ⟨_, c_point_Make_t _ _ _ _ _ _ (by omega) (by decide), ?_⟩
  refine hK17 _ ?_
  simp (disch := omega) only [go_sem, ex_k1, ex_k2, ex_k3, ex_k4, ex_p1, ex_p2, ex_p3, ex_p4, ex_r1, ex_r2, ex_r3, ex_c1, ex_c2, ex_s1, ex_s2, ex_i0, ex_i1, ex_i3, ex_im, eq_self]
  refine hK14 _ ?_
  clear hK17 K17 hK16 K16 hK15 K15 hK14 K14
  refine pwx_sr 1 [] (by rfl) (fun K18 hK18 => ?_)
  refine rgnX_take 1 (fun K19 hK19 => ?_)
  simp (disch := omega) only [go_sem, ex_k1, ex_k2, ex_k3, ex_k4, ex_p1, ex_p2, ex_p3, ex_p4, ex_r1, ex_r2, ex_r3, ex_c1, ex_c2, ex_s1, ex_s2, ex_i0, ex_i1, ex_i3, ex_im, eq_self]
  refine ⟨_, ex_root_0_1_2, ?_⟩
  refine hK19 _ ?_
  refine rgnX_take 1 (fun K20 hK20 => ?_)
  simp (disch := omega) only [go_sem, ex_k1, ex_k2, ex_k3, ex_k4, ex_p1, ex_p2, ex_p3, ex_p4, ex_r1, ex_r2, ex_r3, ex_c1, ex_c2, ex_s1, ex_s2, ex_i0, ex_i1, ex_i3, ex_im, eq_self]
  refine ⟨_, ex_root_0_1_3, ?_⟩
  refine hK20 _ ?_
  refine rgnX_take 1 (fun K21 hK21 => ?_)
  simp (disch := omega) only [go_sem, ex_k1, ex_k2, ex_k3, ex_k4, ex_p1, ex_p2, ex_p3, ex_p4, ex_r1, ex_r2, ex_r3, ex_c1, ex_c2, ex_s1, ex_s2, ex_i0, ex_i1, ex_i3, ex_im, eq_self]
  refine ⟨_, c_point_Make_f _ _ _ _ _ _ (by omega) (by decide), ?_⟩
  refine hK21 _ ?_
  simp (disch := omega) only [go_sem, ex_k1, ex_k2, ex_k3, ex_k4, ex_p1, ex_p2, ex_p3, ex_p4, ex_r1, ex_r2, ex_r3, ex_c1, ex_c2, ex_s1, ex_s2, ex_i0, ex_i1, ex_i3, ex_im, eq_self]
  refine hK18 _ ?_
  clear hK21 K21 hK20 K20 hK19 K19 hK18 K18
  refine pwp_seq ?_
  refine pwx_sr 0 [some 42, some 43, some 44, some 45, some 46, some 47, some 48, some 49, some 50, some 51, some 52, some 53, some 54, some 55, some 56, some 57, some 58, some 59] (by rfl) (fun K22 hK22 => ?_)
  simp (disch := omega) only [go_sem, ex_k1, ex_k2, ex_k3, ex_k4, ex_p1, ex_p2, ex_p3, ex_p4, ex_r1, ex_r2, ex_r3, ex_c1, ex_c2, ex_s1, ex_s2, ex_i0, ex_i1, ex_i3, ex_im, eq_self]
  refine hK22 _ ?_
  clear hK22 K22
  refine pwp_cond (b := false) (by rfl) (fun h => nomatch h) (fun _ => ?_)
  refine pwp_skip ?_
  refine n_then ?_
  refine pwx_sr 1 [] (by rfl) (fun K23 hK23 => ?_)
  refine rgnX_take 2 (fun K24 hK24 => ?_)
  simp (disch := omega) only [go_sem, ex_k1, ex_k2, ex_k3, ex_k4, ex_p1, ex_p2, ex_p3, ex_p4, ex_r1, ex_r2, ex_r3, ex_c1, ex_c2, ex_s1, ex_s2, ex_i0, ex_i1, ex_i3, ex_im, eq_self]
  refine ⟨_, c_point_OfGrid _ _ (by omega) (by omega) (by omega) (by omega), ?_⟩
  refine hK24 _ ?_
  simp (disch := omega) only [go_sem, ex_k1, ex_k2, ex_k3, ex_k4, ex_p1, ex_p2, ex_p3, ex_p4, ex_r1, ex_r2, ex_r3, ex_c1, ex_c2, ex_s1, ex_s2, ex_i0, ex_i1, ex_i3, ex_im, eq_self]
  refine hK23 _ ?_
  clear hK24 K24 hK23 K23
  refine pwx_sd Tryz.mixed 0 [some 62, some 63, some 64, some 65, some 66, some 67, some 68, some 69, some 70, some 71, some 72, some 73, some 74, some 75, some 76, some 77, some 78, some 79, some 80, some 81, some 82, some 83, some 84, some 85, some 86, some 87, some 88, some 89, some 0] (by rfl) [] (by kernel_rfl) (by simp) (fun K25 hK25 => ?_)
  refine rgnX_take 2 (fun K26 hK26 => ?_)
  simp (disch := omega) only [go_sem, ex_k1, ex_k2, ex_k3, ex_k4, ex_p1, ex_p2, ex_p3, ex_p4, ex_r1, ex_r2, ex_r3, ex_c1, ex_c2, ex_s1, ex_s2, ex_i0, ex_i1, ex_i3, ex_im, eq_self]
  refine ⟨_, c_point_X _ _ _ _ _, ?_⟩
  refine hK26 _ ?_
  refine rgnX_take 1 (fun K27 hK27 => ?_)
  simp (disch := omega) only [go_sem, ex_k1, ex_k2, ex_k3, ex_k4, ex_p1, ex_p2, ex_p3, ex_p4, ex_r1, ex_r2, ex_r3, ex_c1, ex_c2, ex_s1, ex_s2, ex_i0, ex_i1, ex_i3, ex_im, eq_self]
  refine ⟨_, ex_root_1_1_2, ?_⟩
  refine hK27 _ ?_
  refine rgnX_take 1 (fun K28 hK28 => ?_)
  simp (disch := omega) only [go_sem, ex_k1, ex_k2, ex_k3, ex_k4, ex_p1, ex_p2, ex_p3, ex_p4, ex_r1, ex_r2, ex_r3, ex_c1, ex_c2, ex_s1, ex_s2, ex_i0, ex_i1, ex_i3, ex_im, eq_self]
  refine ⟨_, c_swarfref03_Same _ _ _ _ _ _ (by omega), ?_⟩
  refine hK28 _ ?_
  refine rgnX_take 3 (fun K29 hK29 => ?_)
  simp (disch := omega) only [go_sem, ex_k1, ex_k2, ex_k3, ex_k4, ex_p1, ex_p2, ex_p3, ex_p4, ex_r1, ex_r2, ex_r3, ex_c1, ex_c2, ex_s1, ex_s2, ex_i0, ex_i1, ex_i3, ex_im, eq_self]
  first | refine ⟨_, c_point_Y _ _ _ _ _, ?_⟩ | skip
  refine hK29 _ ?_
  refine rgnX_take 1 (fun K30 hK30 => ?_)
  simp (disch := omega) only [go_sem, ex_k1, ex_k2, ex_k3, ex_k4, ex_p1, ex_p2, ex_p3, ex_p4, ex_r1, ex_r2, ex_r3, ex_c1, ex_c2, ex_s1, ex_s2, ex_i0, ex_i1, ex_i3, ex_im, eq_self]
  first | refine ⟨_, ex_root_3_0_0, ?_⟩ | skip
  refine hK30 _ ?_
  refine rgnX_take 1 (fun K31 hK31 => ?_)
  simp (disch := omega) only [go_sem, ex_k1, ex_k2, ex_k3, ex_k4, ex_p1, ex_p2, ex_p3, ex_p4, ex_r1, ex_r2, ex_r3, ex_c1, ex_c2, ex_s1, ex_s2, ex_i0, ex_i1, ex_i3, ex_im, eq_self]
  first | refine ⟨_, c_swarfref03_Same _ _ _ _ _ _ (by omega), ?_⟩ | skip
  refine hK31 _ ?_
  refine rgnX_take 5 (fun K32 hK32 => ?_)
  simp (disch := omega) only [go_sem, ex_k1, ex_k2, ex_k3, ex_k4, ex_p1, ex_p2, ex_p3, ex_p4, ex_r1, ex_r2, ex_r3, ex_c1, ex_c2, ex_s1, ex_s2, ex_i0, ex_i1, ex_i3, ex_im, eq_self]
  first | refine ⟨_, c_point_Equal _ _ _ _ _ _ _ _ _ _ (by omega) (by decide +kernel) (by decide +kernel), ?_⟩ | skip
  refine hK32 _ ?_
  refine rgnX_take 5 (fun K33 hK33 => ?_)
  simp (disch := omega) only [go_sem, ex_k1, ex_k2, ex_k3, ex_k4, ex_p1, ex_p2, ex_p3, ex_p4, ex_r1, ex_r2, ex_r3, ex_c1, ex_c2, ex_s1, ex_s2, ex_i0, ex_i1, ex_i3, ex_im, eq_self]
  first | refine ⟨_, c_point_Compare _ _ _ _ _ _ _ _ _ _ (by omega) (by decide +kernel) (by decide +kernel), ?_⟩ | skip
  refine hK33 _ ?_
  refine rgnX_take 5 (fun K34 hK34 => ?_)
  simp (disch := omega) only [go_sem, ex_k1, ex_k2, ex_k3, ex_k4, ex_p1, ex_p2, ex_p3, ex_p4, ex_r1, ex_r2, ex_r3, ex_c1, ex_c2, ex_s1, ex_s2, ex_i0, ex_i1, ex_i3, ex_im, eq_self]
  first | refine ⟨_, c_swarfref07_Vec _ _ (by omega) (by omega) (by omega) (by omega), ?_⟩ | skip
  refine hK34 _ ?_
  refine rgnX_take 1 (fun K35 hK35 => ?_)
  simp (disch := omega) only [go_sem, ex_k1, ex_k2, ex_k3, ex_k4, ex_p1, ex_p2, ex_p3, ex_p4, ex_r1, ex_r2, ex_r3, ex_c1, ex_c2, ex_s1, ex_s2, ex_i0, ex_i1, ex_i3, ex_im, eq_self]
  first | refine ⟨_, c_point_Square _ _ _ _ _ _ _ (by omega), ?_⟩ | skip
  refine hK35 _ ?_
  refine rgnX_take 1 (fun K36 hK36 => ?_)
  simp (disch := omega) only [go_sem, ex_k1, ex_k2, ex_k3, ex_k4, ex_p1, ex_p2, ex_p3, ex_p4, ex_r1, ex_r2, ex_r3, ex_c1, ex_c2, ex_s1, ex_s2, ex_i0, ex_i1, ex_i3, ex_im, eq_self]
  first | refine ⟨_, ex_root_5_2_2, ?_⟩ | skip
  refine hK36 _ ?_
  refine rgnX_take 1 (fun K37 hK37 => ?_)
  simp (disch := omega) only [go_sem, ex_k1, ex_k2, ex_k3, ex_k4, ex_p1, ex_p2, ex_p3, ex_p4, ex_r1, ex_r2, ex_r3, ex_c1, ex_c2, ex_s1, ex_s2, ex_i0, ex_i1, ex_i3, ex_im, eq_self]
  first | refine ⟨_, c_swarfref03_Same _ _ _ _ _ _ (by omega), ?_⟩ | skip
  refine hK37 _ ?_
  simp (disch := omega) only [go_sem, ex_k1, ex_k2, ex_k3, ex_k4, ex_p1, ex_p2, ex_p3, ex_p4, ex_r1, ex_r2, ex_r3, ex_c1, ex_c2, ex_s1, ex_s2, ex_i0, ex_i1, ex_i3, ex_im, eq_self]
  refine hK25 _ ?_
  clear hK37 K37 hK36 K36 hK35 K35 hK34 K34 hK33 K33 hK32 K32 hK31 K31 hK30 K30 hK29 K29 hK28 K28 hK27 K27 hK26 K26 hK25 K25
  refine pwp_ret ?_
  refine ⟨Or.inr rfl, ?_⟩
  simp (disch := omega) only [go_sem, ex_k1, ex_k2, ex_k3, ex_k4, ex_p1, ex_p2, ex_p3, ex_p4, ex_r1, ex_r2, ex_r3, ex_c1, ex_c2, ex_s1, ex_s2, ex_i0, ex_i1, ex_i3, ex_im, eq_self]
  all_goals skip

end Go.Proofs.YtbadkjfjdkbgfaaGreat

set_option linter.unusedSimpArgs false
namespace Go.PL
open Go.ChangeShapes Go.WideShapes Go.RowKit

/-- All memory of a world. -/
def GW (w : World) : GMem := fun b o => w.cell? ⟨b, o, none⟩
theorem GW_agree (w : World) : Agree (GW w) w := fun _ _ _ h => h
/-- A slice's address has no spot. -/
def Spot (v : Value) : Prop := ∀ a len cap, v = .slice (some a) len cap → a.spot = none

section
variable {H : Type} {enc : TypeId × Value → H} {P : Program} {w : World} {base : Nat} {spare : Nat → Bool} {held : Bool} {fuel : Nat} {t : TypeId} {cs : List Value} {x : DataW H × List MemPlace}

theorem op_bool (ht : P.underlying t = some .bool) (h : DataW.trod enc P w base spare held fuel t cs = some x) : ∃ b, All2 (IRep (GW w)) cs [.bool b] := by
  obtain ⟨b, rfl, _⟩ := DataW.trod_bool ht h
  exact ⟨b, .cons (.bool b) .nil⟩
theorem op_int {k : IntKind} (ht : P.underlying t = some (.int k)) (h : DataW.trod enc P w base spare held fuel t cs = some x) : ∃ n, (Lit.int k n).wf = true ∧ All2 (IRep (GW w)) cs [.int k n] := by
  obtain ⟨n, rfl, _, hw⟩ := DataW.trod_int ht h
  exact ⟨n, hw, .cons (.int k n) .nil⟩
theorem wf_u32 {n : Int} (h : (Lit.int .u32 n).wf = true) : 0 ≤ n ∧ n < 4294967296 := by
  simp only [Lit.wf, Bool.and_eq_true, decide_eq_true_eq] at h
  obtain ⟨h1, h2⟩ := h
  have e1 : IntKind.u32.min = 0 := by decide
  have e2 : IntKind.u32.max = 4294967295 := by decide
  rw [e1] at h1; rw [e2] at h2
  exact ⟨h1, by omega⟩
theorem op_u32s {e : TypeId} (ht : P.underlying t = some (.slice e)) (he : P.underlying e = some (.int .u32)) (hc : P.cellsOf e = 1) (hs : ∀ v ∈ cs, Spot v)
    (h : DataW.trod enc P w base spare held fuel t cs = some x) : ∃ l : List Nat, All2 (IRep (GW w)) cs [lC l] := by
  rcases open_ints ht he hc h with ⟨rfl, _⟩ | ⟨a, len, cap, zs, rfl, _, hl, _, hz, _, hcell, hw⟩
  · exact ⟨[], .cons .nil .nil⟩
  · have hsp : a.spot = none := hs _ (by simp) a len cap rfl
    have hlen : len ≤ zs.length := by rw [hz]; split <;> omega
    obtain ⟨b, off, sp⟩ := a
    simp only at hsp
    subst hsp
    refine ⟨(zs.take len).map Int.toNat, .cons ?_ .nil⟩
    rw [lC_eq]
    have hll : ((zs.take len).map Int.toNat).length = len := by simp; omega
    rw [hll]
    have hadd : ∀ i, (⟨b, off, none⟩ : Addr).add i = ⟨b, off + i, none⟩ := fun i => by
      unfold Addr.add
      split
      · rename_i h0; rw [h0]; rfl
      · rfl
    have key : ∀ i, i < len → zs.getD i 0 = (((zs.getD i 0).toNat : Nat) : Int) := fun i hi => by
      have hm : zs.getD i 0 ∈ zs := by
        rw [List.getD_eq_getElem?_getD, List.getElem?_eq_getElem (show i < zs.length by omega)]
        exact List.getElem_mem _
      have := wf_u32 (hw _ hm)
      omega
    refine .sl b off len cap _ (fun i => .int .u32 (zs.getD i 0)) hl (fun i hi => ?_) (fun i hi => ?_)
    · simp only [u32s, List.length_map, List.length_take] at hi
      have := hcell i (by omega)
      rw [hadd] at this
      exact this
    · simp only [u32s, List.length_map, List.length_take] at hi
      have hg : (u32s ((zs.take len).map Int.toNat))[i]'(by simpa [u32s] using hi) = .int .u32 (zs.getD i 0) := by
        rw [key i (by omega)]
        simp [u32s, List.getD_eq_getElem?_getD, List.getElem?_eq_getElem (show i < zs.length by omega)]
      rw [hg]
      exact .int _ _
theorem op_piece {R : Value → PC → Prop} {off n m : Nat} {A B : List PC} (hm : off + n = m) (h1 : All2 R ((cs.drop off).take n) A) (h2 : All2 R (cs.drop m) B) : All2 R (cs.drop off) (A ++ B) := by
  have := h1.append h2
  rw [← hm, ← List.drop_drop, List.take_append_drop] at this
  exact this
theorem op_end {R : Value → PC → Prop} {n : Nat} (h : cs.length = n) : All2 R (cs.drop n) [] := by
  rw [← h, List.drop_length]; exact .nil
theorem sp_piece {off n : Nat} (h : ∀ v ∈ cs, Spot v) : ∀ v ∈ (cs.drop off).take n, Spot v := fun v hv => h v (List.mem_of_mem_drop (List.mem_of_mem_take hv))
/-- A field of a struct. -/
theorem op_field {fs : Array Field} (ht : P.underlying t = some (.struct fs)) (h : DataW.trod enc P w base spare held fuel t cs = some x) {i : Nat} {f : Field} (hi : fs[i]? = some f) {n : Nat} (hn : P.cellsOf f.type = n) :
    ∃ fuel' y, DataW.trod enc P w base spare held fuel' f.type ((cs.drop f.offset).take n) = some y := by
  obtain ⟨xs, m, _, _, _, hlen, hf⟩ := DataW.trod_struct ht h
  have hlt : i < xs.length := by
    rw [hlen]
    rcases Nat.lt_or_ge i fs.size with c | c
    · exact c
    · rw [Array.getElem?_eq_none c] at hi; cases hi
  have := hf i f hi
  rw [List.getElem?_eq_getElem hlt, hn] at this
  exact ⟨m, _, this⟩
theorem op_elem {e : TypeId} {k : Nat} (ht : P.underlying t = some (.array k e)) (h : DataW.trod enc P w base spare held fuel t cs = some x) {i : Nat} (hi : i < k) {n : Nat} (hn : P.cellsOf e = n) {off : Nat} (ho : i * n = off) :
    ∃ fuel' y, DataW.trod enc P w base spare held fuel' e ((cs.drop off).take n) = some y := by
  obtain ⟨xs, m, _, _, _, hlen, hf⟩ := DataW.trod_array ht h
  have := hf i hi
  rw [List.getElem?_eq_getElem (by omega), hn, ho] at this
  exact ⟨m, _, this⟩
theorem op_len {fs : Array Field} (ht : P.underlying t = some (.struct fs)) (h : DataW.trod enc P w base spare held fuel t cs = some x) {n : Nat} (hn : P.cellsOf t = n) : cs.length = n := by
  obtain ⟨xs, m, _, _, hl, _, _⟩ := DataW.trod_struct ht h
  rw [hl, hn]
theorem op_lenA {e : TypeId} {k : Nat} (ht : P.underlying t = some (.array k e)) (h : DataW.trod enc P w base spare held fuel t cs = some x) {n : Nat} (hn : P.cellsOf t = n) : cs.length = n := by
  obtain ⟨xs, m, _, _, hl, _, _⟩ := DataW.trod_array ht h
  rw [hl, hn]
end

theorem spot_cell {P : Program} {w : World} {r : Reach} {base : Nat} {t : TypeId} {v : Value} (h : Cell.okWide P w r base t v) : Spot v := by
  rintro a len cap rfl
  unfold Cell.okWide at h
  split at h
  all_goals first | (rename_i hv; cases hv; done) | (rename_i hv _; cases hv; done) | skip
  · unfold Cell.ok at h
    split at h <;> first | (rename_i hv; cases hv; done) | skip
    · rename_i hv
      simp only [Value.slice.injEq, Option.some.injEq] at hv
      obtain ⟨rfl, rfl, rfl⟩ := hv
      exact h.2.2.2.1
    · exact h.elim
theorem spot_agg {P : Program} {w : World} {r : Reach} {base : Nat} {t : TypeId} {fs : Array Field} (ht : P.underlying t = some (.struct fs)) {v : Value} (h : Value.okWide P w r base t v) : ∃ cs, v = .agg cs ∧ ∀ u ∈ cs.toList, Spot u := by
  unfold Value.okWide at h
  rw [ht] at h
  obtain ⟨cs, rfl, _, ts, _, _, hr⟩ := h
  refine ⟨cs, rfl, fun u hu => ?_⟩
  obtain ⟨i, hi⟩ := List.getElem?_of_mem hu
  obtain ⟨q, _, hq⟩ := hr i u (by rw [← Array.getElem?_toList]; exact hi)
  exact spot_cell hq
theorem spot_aggA {P : Program} {w : World} {r : Reach} {base : Nat} {t : TypeId} {e : TypeId} {k : Nat} (ht : P.underlying t = some (.array k e)) {v : Value} (h : Value.okWide P w r base t v) : ∃ cs, v = .agg cs ∧ ∀ u ∈ cs.toList, Spot u := by
  unfold Value.okWide at h
  rw [ht] at h
  obtain ⟨cs, rfl, _, ts, _, _, hr⟩ := h
  refine ⟨cs, rfl, fun u hu => ?_⟩
  obtain ⟨i, hi⟩ := List.getElem?_of_mem hu
  obtain ⟨q, _, hq⟩ := hr i u (by rw [← Array.getElem?_toList]; exact hi)
  exact spot_cell hq
/-- A struct's value stands for its cells. -/
theorem op_agg {G : GMem} {cs : Array Value} {ps : List PC} (h : All2 (IRep G) cs.toList ps) : RepE G (fun _ => 0) (fun _ => False) (.agg cs) (.a ps) := ⟨cs, rfl, h.mono fun _ _ => RepC.of_irep⟩
/-- What a law that returns true tells its row. -/
theorem law_true {P : Program} {f : FuncId} {args : List PE} (h : Ret P f args (.e (.c (.bool true)))) {w : World} {vs : Array Value} (hv : All2 (RepE (GW w) (fun _ => 0) (fun _ => False)) vs.toList args) :
    Calls P f vs w fun e w' => e = .returned (.bool true) ∧ Below w.heap.size w w' := by
  refine (h.2 (GW w) w vs (GW_agree w) hv).mono ?_
  rintro e w' ⟨v, G', rfl, hr, _, _, _, hb⟩
  have hr' : IRep G' v (.bool true) := hr
  cases hr'
  exact ⟨rfl, hb⟩
end Go.PL

set_option linter.unusedSimpArgs false
set_option linter.unusedVariables false
set_option maxRecDepth 20000
namespace Go.Proofs.YtbadkjfjdkbgfaaGreat
open Go Go.PL
open Go.ChangeShapes Go.WideShapes Go.RowKit
theorem op24 {H : Type} {enc : TypeId × Value → H} {w : World} {base : Nat} {spare : Nat → Bool} {held : Bool} {fuel : Nat} {cs : List Value} {x : DataW H × List MemPlace} (h : DataW.trod enc Tryz.prog w base spare held fuel 24 cs = some x) (hs : ∀ v ∈ cs, Spot v) :
    ∃ c0 : Bool, ∃ c1 : List Nat, All2 (IRep (GW w)) cs [.bool c0, lC c1] := by
  obtain ⟨f0, y0, h0⟩ := op_field Tryz.underlying24 h (i := 0) rfl (n := 1) (by kernel_rfl)
  obtain ⟨c0, r0⟩ := op_bool Tryz.underlying4 h0
  obtain ⟨f1, y1, h1⟩ := op_field Tryz.underlying24 h (i := 1) rfl (n := 1) (by kernel_rfl)
  obtain ⟨c1, r1⟩ := op_u32s Tryz.underlying22 Tryz.underlying142 (by kernel_rfl) (sp_piece hs) h1
  have r := op_piece (off := 0) rfl r0 (op_piece (off := 1) rfl r1 (op_end (op_len Tryz.underlying24 h (by kernel_rfl))))
  exact ⟨c0, c1, r⟩

theorem op26 {H : Type} {enc : TypeId × Value → H} {w : World} {base : Nat} {spare : Nat → Bool} {held : Bool} {fuel : Nat} {cs : List Value} {x : DataW H × List MemPlace} (h : DataW.trod enc Tryz.prog w base spare held fuel 26 cs = some x) (hs : ∀ v ∈ cs, Spot v) :
    ∃ c0 : Bool, ∃ c1 : List Nat, ∃ c2 : Bool, ∃ c3 : List Nat, All2 (IRep (GW w)) cs [.bool c0, lC c1, .bool c2, lC c3] := by
  obtain ⟨f0, y0, h0⟩ := op_field Tryz.underlying26 h (i := 0) rfl (n := 2) (by kernel_rfl)
  obtain ⟨c0, c1, r0⟩ := op24 h0 (sp_piece hs)
  obtain ⟨f1, y1, h1⟩ := op_field Tryz.underlying26 h (i := 1) rfl (n := 2) (by kernel_rfl)
  obtain ⟨c2, c3, r1⟩ := op24 h1 (sp_piece hs)
  have r := op_piece (off := 0) rfl r0 (op_piece (off := 2) rfl r1 (op_end (op_len Tryz.underlying26 h (by kernel_rfl))))
  exact ⟨c0, c1, c2, c3, r⟩

theorem op28 {H : Type} {enc : TypeId × Value → H} {w : World} {base : Nat} {spare : Nat → Bool} {held : Bool} {fuel : Nat} {cs : List Value} {x : DataW H × List MemPlace} (h : DataW.trod enc Tryz.prog w base spare held fuel 28 cs = some x) (hs : ∀ v ∈ cs, Spot v) :
    ∃ c0 : Bool, ∃ c1 : List Nat, ∃ c2 : Bool, ∃ c3 : List Nat, ∃ c4 : Bool, ∃ c5 : List Nat, ∃ c6 : Bool, ∃ c7 : List Nat, ∃ c8 : Bool, ∃ c9 : List Nat, ∃ c10 : Bool, ∃ c11 : List Nat, All2 (IRep (GW w)) cs [.bool c0, lC c1, .bool c2, lC c3, .bool c4, lC c5, .bool c6, lC c7, .bool c8, lC c9, .bool c10, lC c11] := by
  obtain ⟨f0, y0, h0⟩ := op_field Tryz.underlying28 h (i := 0) rfl (n := 4) (by kernel_rfl)
  obtain ⟨c0, c1, c2, c3, r0⟩ := op26 h0 (sp_piece hs)
  obtain ⟨f1, y1, h1⟩ := op_field Tryz.underlying28 h (i := 1) rfl (n := 4) (by kernel_rfl)
  obtain ⟨c4, c5, c6, c7, r1⟩ := op26 h1 (sp_piece hs)
  obtain ⟨f2, y2, h2⟩ := op_field Tryz.underlying28 h (i := 2) rfl (n := 4) (by kernel_rfl)
  obtain ⟨c8, c9, c10, c11, r2⟩ := op26 h2 (sp_piece hs)
  have r := op_piece (off := 0) rfl r0 (op_piece (off := 4) rfl r1 (op_piece (off := 8) rfl r2 (op_end (op_len Tryz.underlying28 h (by kernel_rfl)))))
  exact ⟨c0, c1, c2, c3, c4, c5, c6, c7, c8, c9, c10, c11, r⟩

theorem op32 {H : Type} {enc : TypeId × Value → H} {w : World} {base : Nat} {spare : Nat → Bool} {held : Bool} {fuel : Nat} {cs : List Value} {x : DataW H × List MemPlace} (h : DataW.trod enc Tryz.prog w base spare held fuel 32 cs = some x) (hs : ∀ v ∈ cs, Spot v) :
    ∃ c0 : Bool, ∃ c1 : List Nat, ∃ c2 : Bool, ∃ c3 : List Nat, ∃ c4 : Bool, ∃ c5 : List Nat, ∃ c6 : Bool, ∃ c7 : List Nat, ∃ c8 : Bool, ∃ c9 : List Nat, ∃ c10 : Bool, ∃ c11 : List Nat, ∃ c12 : Bool, ∃ c13 : List Nat, ∃ c14 : Bool, ∃ c15 : List Nat, ∃ c16 : Bool, ∃ c17 : List Nat, ∃ c18 : Bool, ∃ c19 : List Nat, All2 (IRep (GW w)) cs [.bool c0, lC c1, .bool c2, lC c3, .bool c4, lC c5, .bool c6, lC c7, .bool c8, lC c9, .bool c10, lC c11, .bool c12, lC c13, .bool c14, lC c15, .bool c16, lC c17, .bool c18, lC c19] := by
  obtain ⟨f0, y0, h0⟩ := op_field Tryz.underlying32 h (i := 0) rfl (n := 4) (by kernel_rfl)
  obtain ⟨c0, c1, c2, c3, r0⟩ := op26 h0 (sp_piece hs)
  obtain ⟨f1, y1, h1⟩ := op_field Tryz.underlying32 h (i := 1) rfl (n := 4) (by kernel_rfl)
  obtain ⟨c4, c5, c6, c7, r1⟩ := op26 h1 (sp_piece hs)
  obtain ⟨f2, y2, h2⟩ := op_field Tryz.underlying32 h (i := 2) rfl (n := 4) (by kernel_rfl)
  obtain ⟨c8, c9, c10, c11, r2⟩ := op26 h2 (sp_piece hs)
  obtain ⟨f3, y3, h3⟩ := op_field Tryz.underlying32 h (i := 3) rfl (n := 4) (by kernel_rfl)
  obtain ⟨c12, c13, c14, c15, r3⟩ := op26 h3 (sp_piece hs)
  obtain ⟨f4, y4, h4⟩ := op_field Tryz.underlying32 h (i := 4) rfl (n := 4) (by kernel_rfl)
  obtain ⟨c16, c17, c18, c19, r4⟩ := op26 h4 (sp_piece hs)
  have r := op_piece (off := 0) rfl r0 (op_piece (off := 4) rfl r1 (op_piece (off := 8) rfl r2 (op_piece (off := 12) rfl r3 (op_piece (off := 16) rfl r4 (op_end (op_len Tryz.underlying32 h (by kernel_rfl)))))))
  exact ⟨c0, c1, c2, c3, c4, c5, c6, c7, c8, c9, c10, c11, c12, c13, c14, c15, c16, c17, c18, c19, r⟩

theorem op42 {H : Type} {enc : TypeId × Value → H} {w : World} {base : Nat} {spare : Nat → Bool} {held : Bool} {fuel : Nat} {cs : List Value} {x : DataW H × List MemPlace} (h : DataW.trod enc Tryz.prog w base spare held fuel 42 cs = some x) (hs : ∀ v ∈ cs, Spot v) :
    ∃ c0 : Bool, ∃ c1 : List Nat, ∃ c2 : Bool, ∃ c3 : List Nat, ∃ c4 : Bool, ∃ c5 : List Nat, ∃ c6 : Bool, ∃ c7 : List Nat, All2 (IRep (GW w)) cs [.bool c0, lC c1, .bool c2, lC c3, .bool c4, lC c5, .bool c6, lC c7] := by
  obtain ⟨f0, y0, h0⟩ := op_field Tryz.underlying42 h (i := 0) rfl (n := 4) (by kernel_rfl)
  obtain ⟨c0, c1, c2, c3, r0⟩ := op26 h0 (sp_piece hs)
  obtain ⟨f1, y1, h1⟩ := op_field Tryz.underlying42 h (i := 1) rfl (n := 4) (by kernel_rfl)
  obtain ⟨c4, c5, c6, c7, r1⟩ := op26 h1 (sp_piece hs)
  have r := op_piece (off := 0) rfl r0 (op_piece (off := 4) rfl r1 (op_end (op_len Tryz.underlying42 h (by kernel_rfl))))
  exact ⟨c0, c1, c2, c3, c4, c5, c6, c7, r⟩

theorem op60 {H : Type} {enc : TypeId × Value → H} {w : World} {base : Nat} {spare : Nat → Bool} {held : Bool} {fuel : Nat} {cs : List Value} {x : DataW H × List MemPlace} (h : DataW.trod enc Tryz.prog w base spare held fuel 60 cs = some x) (hs : ∀ v ∈ cs, Spot v) :
    ∃ c0 : Int, ∃ c1 : Int, (Lit.int .i64 c0).wf = true ∧ (Lit.int .i64 c1).wf = true ∧ All2 (IRep (GW w)) cs [.int .i64 c0, .int .i64 c1] := by
  obtain ⟨f0, y0, h0⟩ := op_field Tryz.underlying60 h (i := 0) rfl (n := 1) (by kernel_rfl)
  obtain ⟨c0, q0, r0⟩ := op_int Tryz.underlying2 h0
  obtain ⟨f1, y1, h1⟩ := op_field Tryz.underlying60 h (i := 1) rfl (n := 1) (by kernel_rfl)
  obtain ⟨c1, q1, r1⟩ := op_int Tryz.underlying2 h1
  have r := op_piece (off := 0) rfl r0 (op_piece (off := 1) rfl r1 (op_end (op_len Tryz.underlying60 h (by kernel_rfl))))
  exact ⟨c0, c1, q0, q1, r⟩

theorem op53 {H : Type} {enc : TypeId × Value → H} {w : World} {base : Nat} {spare : Nat → Bool} {held : Bool} {fuel : Nat} {cs : List Value} {x : DataW H × List MemPlace} (h : DataW.trod enc Tryz.prog w base spare held fuel 53 cs = some x) (hs : ∀ v ∈ cs, Spot v) :
    ∃ c0 : Int, ∃ c1 : Int, ∃ c2 : Int, ∃ c3 : Int, ∃ c4 : Int, ∃ c5 : Int, (Lit.int .i16 c0).wf = true ∧ (Lit.int .i16 c1).wf = true ∧ (Lit.int .i16 c2).wf = true ∧ (Lit.int .i16 c3).wf = true ∧ (Lit.int .u16 c4).wf = true ∧ (Lit.int .u8 c5).wf = true ∧ All2 (IRep (GW w)) cs [.int .i16 c0, .int .i16 c1, .int .i16 c2, .int .i16 c3, .int .u16 c4, .int .u8 c5] := by
  obtain ⟨f0, y0, h0⟩ := op_field Tryz.underlying53 h (i := 0) rfl (n := 1) (by kernel_rfl)
  obtain ⟨c0, q0, r0⟩ := op_int Tryz.underlying50 h0
  obtain ⟨f1, y1, h1⟩ := op_field Tryz.underlying53 h (i := 1) rfl (n := 1) (by kernel_rfl)
  obtain ⟨c1, q1, r1⟩ := op_int Tryz.underlying50 h1
  obtain ⟨f2, y2, h2⟩ := op_field Tryz.underlying53 h (i := 2) rfl (n := 1) (by kernel_rfl)
  obtain ⟨c2, q2, r2⟩ := op_int Tryz.underlying50 h2
  obtain ⟨f3, y3, h3⟩ := op_field Tryz.underlying53 h (i := 3) rfl (n := 1) (by kernel_rfl)
  obtain ⟨c3, q3, r3⟩ := op_int Tryz.underlying50 h3
  obtain ⟨f4, y4, h4⟩ := op_field Tryz.underlying53 h (i := 4) rfl (n := 1) (by kernel_rfl)
  obtain ⟨c4, q4, r4⟩ := op_int Tryz.underlying51 h4
  obtain ⟨f5, y5, h5⟩ := op_field Tryz.underlying53 h (i := 5) rfl (n := 1) (by kernel_rfl)
  obtain ⟨c5, q5, r5⟩ := op_int Tryz.underlying5 h5
  have r := op_piece (off := 0) rfl r0 (op_piece (off := 1) rfl r1 (op_piece (off := 2) rfl r2 (op_piece (off := 3) rfl r3 (op_piece (off := 4) rfl r4 (op_piece (off := 5) rfl r5 (op_end (op_len Tryz.underlying53 h (by kernel_rfl))))))))
  exact ⟨c0, c1, c2, c3, c4, c5, q0, q1, q2, q3, q4, q5, r⟩

theorem op54 {H : Type} {enc : TypeId × Value → H} {w : World} {base : Nat} {spare : Nat → Bool} {held : Bool} {fuel : Nat} {cs : List Value} {x : DataW H × List MemPlace} (h : DataW.trod enc Tryz.prog w base spare held fuel 54 cs = some x) (hs : ∀ v ∈ cs, Spot v) :
    ∃ c0 : Int, ∃ c1 : Int, ∃ c2 : Int, ∃ c3 : Int, ∃ c4 : Int, ∃ c5 : Int, ∃ c6 : Int, ∃ c7 : Int, ∃ c8 : Int, ∃ c9 : Int, ∃ c10 : Int, ∃ c11 : Int, ∃ c12 : Int, ∃ c13 : Int, ∃ c14 : Int, ∃ c15 : Int, ∃ c16 : Int, ∃ c17 : Int, (Lit.int .i16 c0).wf = true ∧ (Lit.int .i16 c1).wf = true ∧ (Lit.int .i16 c2).wf = true ∧ (Lit.int .i16 c3).wf = true ∧ (Lit.int .u16 c4).wf = true ∧ (Lit.int .u8 c5).wf = true ∧ (Lit.int .i16 c6).wf = true ∧ (Lit.int .i16 c7).wf = true ∧ (Lit.int .i16 c8).wf = true ∧ (Lit.int .i16 c9).wf = true ∧ (Lit.int .u16 c10).wf = true ∧ (Lit.int .u8 c11).wf = true ∧ (Lit.int .i16 c12).wf = true ∧ (Lit.int .i16 c13).wf = true ∧ (Lit.int .i16 c14).wf = true ∧ (Lit.int .i16 c15).wf = true ∧ (Lit.int .u16 c16).wf = true ∧ (Lit.int .u8 c17).wf = true ∧ All2 (IRep (GW w)) cs [.int .i16 c0, .int .i16 c1, .int .i16 c2, .int .i16 c3, .int .u16 c4, .int .u8 c5, .int .i16 c6, .int .i16 c7, .int .i16 c8, .int .i16 c9, .int .u16 c10, .int .u8 c11, .int .i16 c12, .int .i16 c13, .int .i16 c14, .int .i16 c15, .int .u16 c16, .int .u8 c17] := by
  obtain ⟨f0, y0, h0⟩ := op_elem Tryz.underlying54 h (i := 0) (by omega) (n := 6) (by kernel_rfl) (off := 0) rfl
  obtain ⟨c0, c1, c2, c3, c4, c5, q0_0, q0_1, q0_2, q0_3, q0_4, q0_5, r0⟩ := op53 h0 (sp_piece hs)
  obtain ⟨f1, y1, h1⟩ := op_elem Tryz.underlying54 h (i := 1) (by omega) (n := 6) (by kernel_rfl) (off := 6) rfl
  obtain ⟨c6, c7, c8, c9, c10, c11, q1_0, q1_1, q1_2, q1_3, q1_4, q1_5, r1⟩ := op53 h1 (sp_piece hs)
  obtain ⟨f2, y2, h2⟩ := op_elem Tryz.underlying54 h (i := 2) (by omega) (n := 6) (by kernel_rfl) (off := 12) rfl
  obtain ⟨c12, c13, c14, c15, c16, c17, q2_0, q2_1, q2_2, q2_3, q2_4, q2_5, r2⟩ := op53 h2 (sp_piece hs)
  have r := op_piece (off := 0) rfl r0 (op_piece (off := 6) rfl r1 (op_piece (off := 12) rfl r2 (op_end (op_lenA Tryz.underlying54 h (by kernel_rfl)))))
  exact ⟨c0, c1, c2, c3, c4, c5, c6, c7, c8, c9, c10, c11, c12, c13, c14, c15, c16, c17, q0_0, q0_1, q0_2, q0_3, q0_4, q0_5, q1_0, q1_1, q1_2, q1_3, q1_4, q1_5, q2_0, q2_1, q2_2, q2_3, q2_4, q2_5, r⟩

end Go.Proofs.YtbadkjfjdkbgfaaGreat

namespace Go.PL
open Go.RL
theorem vld3_c {b c : Rat} (h : vld3 b c = true) : (b = 0 ↔ c = 0) ∧ 0 ≤ c := by
  unfold vld3 at h
  split at h
  · simp only [Bool.and_eq_true, decide_eq_true_eq] at h
    rw [h.1, h.2]; exact ⟨by simp, Rat.le_refl⟩
  · rename_i hn
    simp only [not_or] at hn
    simp only [Bool.and_eq_true, decide_eq_true_eq] at h
    exact ⟨⟨fun q => absurd q hn.1, fun q => absurd q hn.2⟩, Rat.le_of_lt h.1⟩
theorem make_X {b c b' c' : Rat} (h : vld3 b c = true) : rC b (pC b b' (rK b c c')) = c := by
  by_cases hb : b = 0
  · rw [rC_0 hb, ((vld3_c h).1.1 hb)]
  · rw [rC_1 hb, pC_1 hb, rK_1 hb]
theorem make_Y {b c b' c' : Rat} (h : vld3 b c = true) (h' : vld3 b' c' = true) (hm : b = 0 ∨ b' = 0 ∨ c = c') : rC b' (pC b b' (rK b c c')) = c' := by
  by_cases hb' : b' = 0
  · rw [rC_0 hb', ((vld3_c h').1.1 hb')]
  · rw [rC_1 hb', pC_2 hb']
    by_cases hb : b = 0
    · rw [rK_0 hb]
    · rw [rK_1 hb]; rcases hm with hm | hm | hm
      · contradiction
      · contradiction
      · exact hm
end Go.PL

set_option linter.unusedSimpArgs false
set_option linter.unusedVariables false
set_option maxRecDepth 20000
namespace Go.Proofs.YtbadkjfjdkbgfaaGreat
open Go Go.PL Go.RL
set_option maxHeartbeats 4000000 in
theorem w_PointMake_x (n0 n1 n2 n3 n4 n5 : Bool) (l0 l1 l2 l3 l4 l5 : List Nat) (m0 m1 m2 m3 m4 m5 : Bool) (o0 o1 o2 o3 o4 o5 : List Nat) (h1 : Ret Tryz.prog 12 [.a [.bool n0, lC l0, .bool n1, lC l1, .bool n2, lC l2, .bool n3, lC l3, .bool n4, lC l4, .bool n5, lC l5], .c (.int .i64 3)] (.e (.c (.bool false)))) :
    Ret Tryz.prog 3 [.a [.bool n0, lC l0, .bool n1, lC l1, .bool n2, lC l2, .bool n3, lC l3, .bool n4, lC l4, .bool n5, lC l5], .a [.bool m0, lC o0, .bool m1, lC o1, .bool m2, lC o2, .bool m3, lC o3, .bool m4, lC o4, .bool m5, lC o5]] (.e (.c (.bool true))) := by
  refine ret_of_body (md := {}) Tryz.func3 (by kernel_rfl) rfl ?_
  simp only [Tryz.f3, List.map_cons, List.map_nil, List.length_cons, List.length_nil, Nat.zero_add, Nat.reduceAdd, Nat.reduceSub, List.reduceReplicate, List.cons_append, List.nil_append]
  refine pwx_sr 2 [] (by rfl) (fun K1 hK1 => ?_)
  simp (disch := omega) only [go_sem]
  refine hK1 _ ?_
  clear hK1 K1
  refine pwp_seq ?_
  refine pwx_sr 0 [some 9, some 10, some 11, some 12, some 13, some 14, some 15, some 16, some 17, some 18, some 19, some 20] (by rfl) (fun K2 hK2 => ?_)
  refine rgnX_take 1 (fun K3 hK3 => ?_)
  simp (disch := omega) only [go_sem]
  refine ⟨_, c_swarflaw07_awake, ?_⟩
  refine hK3 _ ?_
  refine rgnX_take 4 (fun K4 hK4 => ?_)
  simp (disch := omega) only [go_sem]
  first | refine ⟨_, h1, ?_⟩ | skip
  refine hK4 _ ?_
  refine rgnX_take 5 (fun K5 hK5 => ?_)
  simp (disch := omega) only [go_sem]
  first | refine ⟨_, h1, ?_⟩ | skip
  refine hK5 _ ?_
  simp (disch := omega) only [go_sem]
  refine hK2 _ ?_
  clear hK5 K5 hK4 K4 hK3 K3 hK2 K2
  refine pwp_cond (b := true) (by rfl) (fun _ => ?_) (fun h => nomatch h)
  refine pwx_sr 0 [] (by rfl) (fun K6 hK6 => ?_)
  refine rgnX_take 1 (fun K7 hK7 => ?_)
  simp (disch := omega) only [go_sem]
  refine ⟨_, c_swarflaw07_awake, ?_⟩
  refine hK7 _ ?_
  simp (disch := omega) only [go_sem]
  refine hK6 _ ?_
  clear hK7 K7 hK6 K6
  refine pwp_ret ?_
  refine r_then ?_
  refine ⟨Or.inr rfl, ?_⟩
  simp (disch := omega) only [go_sem]
set_option maxHeartbeats 4000000 in
theorem w_PointMake_y (n0 n1 n2 n3 n4 n5 : Bool) (l0 l1 l2 l3 l4 l5 : List Nat) (m0 m1 m2 m3 m4 m5 : Bool) (o0 o1 o2 o3 o4 o5 : List Nat) (h1 : Ret Tryz.prog 12 [.a [.bool n0, lC l0, .bool n1, lC l1, .bool n2, lC l2, .bool n3, lC l3, .bool n4, lC l4, .bool n5, lC l5], .c (.int .i64 3)] (.e (.c (.bool true)))) (h2 : Ret Tryz.prog 12 [.a [.bool m0, lC o0, .bool m1, lC o1, .bool m2, lC o2, .bool m3, lC o3, .bool m4, lC o4, .bool m5, lC o5], .c (.int .i64 3)] (.e (.c (.bool false)))) :
    Ret Tryz.prog 3 [.a [.bool n0, lC l0, .bool n1, lC l1, .bool n2, lC l2, .bool n3, lC l3, .bool n4, lC l4, .bool n5, lC l5], .a [.bool m0, lC o0, .bool m1, lC o1, .bool m2, lC o2, .bool m3, lC o3, .bool m4, lC o4, .bool m5, lC o5]] (.e (.c (.bool true))) := by
  refine ret_of_body (md := {}) Tryz.func3 (by kernel_rfl) rfl ?_
  simp only [Tryz.f3, List.map_cons, List.map_nil, List.length_cons, List.length_nil, Nat.zero_add, Nat.reduceAdd, Nat.reduceSub, List.reduceReplicate, List.cons_append, List.nil_append]
  refine pwx_sr 2 [] (by rfl) (fun K1 hK1 => ?_)
  simp (disch := omega) only [go_sem]
  refine hK1 _ ?_
  clear hK1 K1
  refine pwp_seq ?_
  refine pwx_sr 0 [some 9, some 10, some 11, some 12, some 13, some 14, some 15, some 16, some 17, some 18, some 19, some 20] (by rfl) (fun K2 hK2 => ?_)
  refine rgnX_take 1 (fun K3 hK3 => ?_)
  simp (disch := omega) only [go_sem]
  refine ⟨_, c_swarflaw07_awake, ?_⟩
  refine hK3 _ ?_
  refine rgnX_take 4 (fun K4 hK4 => ?_)
  simp (disch := omega) only [go_sem]
  first | refine ⟨_, h1, ?_⟩ | skip
  refine hK4 _ ?_
  refine rgnX_take 5 (fun K5 hK5 => ?_)
  simp (disch := omega) only [go_sem]
  first | refine ⟨_, h2, ?_⟩ | skip
  refine hK5 _ ?_
  simp (disch := omega) only [go_sem]
  refine hK2 _ ?_
  clear hK5 K5 hK4 K4 hK3 K3 hK2 K2
  refine pwp_cond (b := true) (by rfl) (fun _ => ?_) (fun h => nomatch h)
  refine pwx_sr 0 [] (by rfl) (fun K6 hK6 => ?_)
  refine rgnX_take 1 (fun K7 hK7 => ?_)
  simp (disch := omega) only [go_sem]
  refine ⟨_, c_swarflaw07_awake, ?_⟩
  refine hK7 _ ?_
  simp (disch := omega) only [go_sem]
  refine hK6 _ ?_
  clear hK7 K7 hK6 K6
  refine pwp_ret ?_
  refine r_then ?_
  refine ⟨Or.inr rfl, ?_⟩
  simp (disch := omega) only [go_sem]
set_option maxHeartbeats 4000000 in
theorem w_PointMake_t (a b c a' b' c' : Rat) [SzR a 3] [SzR b 3] [SzR c 3] [SzR a' 3] [SzR b' 3] [SzR c' 3] (v1 : vld3 b c = true) (v2 : vld3 b' c' = true) (h1 : Ret Tryz.prog 12 [.a (ratC (a) ++ (ratC (b) ++ ratC (c))), .c (.int .i64 3)] (.e (.c (.bool true)))) (h2 : Ret Tryz.prog 12 [.a (ratC (a') ++ (ratC (b') ++ ratC (c'))), .c (.int .i64 3)] (.e (.c (.bool true)))) (hm : b = 0 ∨ b' = 0 ∨ c = c') :
    Ret Tryz.prog 3 [.a (ratC (a) ++ (ratC (b) ++ ratC (c))), .a (ratC (a') ++ (ratC (b') ++ ratC (c')))] (.e (.c (.bool true))) := by
  refine ret_of_body (md := {}) Tryz.func3 (by kernel_rfl) rfl ?_
  simp only [Tryz.f3, List.map_cons, List.map_nil, List.length_cons, List.length_nil, Nat.zero_add, Nat.reduceAdd, Nat.reduceSub, List.reduceReplicate, List.cons_append, List.nil_append]
  have e1 := make_X (b' := b') (c' := c') v1
  have e2 := make_Y v1 v2 hm
  refine pwx_sr 2 [] (by rfl) (fun K1 hK1 => ?_)
  simp (disch := omega) only [go_sem, eq_self]
  refine hK1 _ ?_
  clear hK1 K1
  refine pwp_seq ?_
  refine pwx_sr 0 [some 9, some 10, some 11, some 12, some 13, some 14, some 15, some 16, some 17, some 18, some 19, some 20] (by rfl) (fun K2 hK2 => ?_)
  refine rgnX_take 1 (fun K3 hK3 => ?_)
  simp (disch := omega) only [go_sem, eq_self]
  refine ⟨_, c_swarflaw07_awake, ?_⟩
  refine hK3 _ ?_
  refine rgnX_take 4 (fun K4 hK4 => ?_)
  simp (disch := omega) only [go_sem, eq_self]
  first | refine ⟨_, h1, ?_⟩ | skip
  refine hK4 _ ?_
  refine rgnX_take 5 (fun K5 hK5 => ?_)
  simp (disch := omega) only [go_sem, eq_self]
  first | refine ⟨_, h2, ?_⟩ | skip
  refine hK5 _ ?_
  simp (disch := omega) only [go_sem, eq_self]
  refine hK2 _ ?_
  clear hK5 K5 hK4 K4 hK3 K3 hK2 K2
  refine pwp_cond (b := false) (by rfl) (fun h => nomatch h) (fun _ => ?_)
  refine pwp_skip ?_
  refine n_then ?_
  refine pwx_sr 1 [] (by rfl) (fun K6 hK6 => ?_)
  refine rgnX_take 3 (fun K7 hK7 => ?_)
  simp (disch := omega) only [go_sem, eq_self]
  refine ⟨_, c_point_Make_t _ _ _ _ _ _ (by omega) hm, ?_⟩
  refine hK7 _ ?_
  simp (disch := omega) only [go_sem, eq_self]
  refine hK6 _ ?_
  clear hK7 K7 hK6 K6
  refine pwx_sr 1 [] (by rfl) (fun K8 hK8 => ?_)
  refine rgnX_take 3 (fun K9 hK9 => ?_)
  simp (disch := omega) only [go_sem, eq_self]
  refine ⟨_, c_swarfref07_Make_t _ _ _ _ _ _ (by omega) hm, ?_⟩
  refine hK9 _ ?_
  simp (disch := omega) only [go_sem, eq_self]
  refine hK8 _ ?_
  clear hK9 K9 hK8 K8
  refine pwp_seq ?_
  refine pwx_sr 0 [some 34, some 35, some 36, some 37, some 38, some 39, some 40, some 41, some 42] (by rfl) (fun K10 hK10 => ?_)
  refine rgnX_take 7 (fun K11 hK11 => ?_)
  simp (disch := omega) only [go_sem, eq_self]
  first | refine ⟨_, c_swarfref07_Same _ _ _ _ _ _ _ _ _ _ (by omega), ?_⟩ | skip
  refine hK11 _ ?_
  simp (disch := omega) only [go_sem, eq_self]
  refine hK10 _ ?_
  clear hK11 K11 hK10 K10
  refine pwp_cond (b := false) (by rfl) (fun h => nomatch h) (fun _ => ?_)
  refine pwp_skip ?_
  refine n_then ?_
  refine pwx_sd Tryz.mixed 0 [some 43, some 44, some 45, some 46, some 47, some 48, some 49, some 50, some 51, some 52, some 53, some 54, some 55, some 56, some 4] (by rfl) [] (by kernel_rfl) (by simp) (fun K12 hK12 => ?_)
  refine rgnX_take 5 (fun K13 hK13 => ?_)
  simp (disch := omega) only [go_sem, eq_self, e1, e2]
  first | refine ⟨_, c_point_X _ _ _ _ _, ?_⟩ | skip
  refine hK13 _ ?_
  refine rgnX_take 2 (fun K14 hK14 => ?_)
  simp (disch := omega) only [go_sem, eq_self, e1, e2]
  first | refine ⟨_, c_swarfref03_Same _ _ _ _ _ _ (by omega), ?_⟩ | skip
  refine hK14 _ ?_
  refine rgnX_take 3 (fun K15 hK15 => ?_)
  simp (disch := omega) only [go_sem, eq_self, e1, e2]
  first | refine ⟨_, c_point_Y _ _ _ _ _, ?_⟩ | skip
  refine hK15 _ ?_
  refine rgnX_take 2 (fun K16 hK16 => ?_)
  simp (disch := omega) only [go_sem, eq_self, e1, e2]
  first | refine ⟨_, c_swarfref03_Same _ _ _ _ _ _ (by omega), ?_⟩ | skip
  refine hK16 _ ?_
  simp (disch := omega) only [go_sem, eq_self, e1, e2]
  refine hK12 _ ?_
  clear hK16 K16 hK15 K15 hK14 K14 hK13 K13 hK12 K12
  refine pwp_ret ?_
  refine ⟨Or.inr rfl, ?_⟩
  simp (disch := omega) only [go_sem, eq_self]
  all_goals skip
set_option maxHeartbeats 4000000 in
theorem w_PointMake_f (a b c a' b' c' : Rat) [SzR a 3] [SzR b 3] [SzR c 3] [SzR a' 3] [SzR b' 3] [SzR c' 3] (v1 : vld3 b c = true) (v2 : vld3 b' c' = true) (h1 : Ret Tryz.prog 12 [.a (ratC (a) ++ (ratC (b) ++ ratC (c))), .c (.int .i64 3)] (.e (.c (.bool true)))) (h2 : Ret Tryz.prog 12 [.a (ratC (a') ++ (ratC (b') ++ ratC (c'))), .c (.int .i64 3)] (.e (.c (.bool true)))) (hm : ¬ (b = 0 ∨ b' = 0 ∨ c = c')) :
    Ret Tryz.prog 3 [.a (ratC (a) ++ (ratC (b) ++ ratC (c))), .a (ratC (a') ++ (ratC (b') ++ ratC (c')))] (.e (.c (.bool true))) := by
  refine ret_of_body (md := {}) Tryz.func3 (by kernel_rfl) rfl ?_
  simp only [Tryz.f3, List.map_cons, List.map_nil, List.length_cons, List.length_nil, Nat.zero_add, Nat.reduceAdd, Nat.reduceSub, List.reduceReplicate, List.cons_append, List.nil_append]
  refine pwx_sr 2 [] (by rfl) (fun K1 hK1 => ?_)
  simp (disch := omega) only [go_sem, eq_self]
  refine hK1 _ ?_
  clear hK1 K1
  refine pwp_seq ?_
  refine pwx_sr 0 [some 9, some 10, some 11, some 12, some 13, some 14, some 15, some 16, some 17, some 18, some 19, some 20] (by rfl) (fun K2 hK2 => ?_)
  refine rgnX_take 1 (fun K3 hK3 => ?_)
  simp (disch := omega) only [go_sem, eq_self]
  refine ⟨_, c_swarflaw07_awake, ?_⟩
  refine hK3 _ ?_
  refine rgnX_take 4 (fun K4 hK4 => ?_)
  simp (disch := omega) only [go_sem, eq_self]
  first | refine ⟨_, h1, ?_⟩ | skip
  refine hK4 _ ?_
  refine rgnX_take 5 (fun K5 hK5 => ?_)
  simp (disch := omega) only [go_sem, eq_self]
  first | refine ⟨_, h2, ?_⟩ | skip
  refine hK5 _ ?_
  simp (disch := omega) only [go_sem, eq_self]
  refine hK2 _ ?_
  clear hK5 K5 hK4 K4 hK3 K3 hK2 K2
  refine pwp_cond (b := false) (by rfl) (fun h => nomatch h) (fun _ => ?_)
  refine pwp_skip ?_
  refine n_then ?_
  refine pwx_sr 1 [] (by rfl) (fun K6 hK6 => ?_)
  refine rgnX_take 3 (fun K7 hK7 => ?_)
  simp (disch := omega) only [go_sem, eq_self]
  refine ⟨_, c_point_Make_f _ _ _ _ _ _ (by omega) hm, ?_⟩
  refine hK7 _ ?_
  simp (disch := omega) only [go_sem, eq_self]
  refine hK6 _ ?_
  clear hK7 K7 hK6 K6
  refine pwx_sr 1 [] (by rfl) (fun K8 hK8 => ?_)
  refine rgnX_take 3 (fun K9 hK9 => ?_)
  simp (disch := omega) only [go_sem, eq_self]
  refine ⟨_, c_swarfref07_Make_f _ _ _ _ _ _ (by omega) hm, ?_⟩
  refine hK9 _ ?_
  simp (disch := omega) only [go_sem, eq_self]
  refine hK8 _ ?_
  clear hK9 K9 hK8 K8
  refine pwp_seq ?_
  refine pwx_sr 0 [some 34, some 35, some 36, some 37, some 38, some 39, some 40, some 41, some 42] (by rfl) (fun K10 hK10 => ?_)
  refine rgnX_take 7 (fun K11 hK11 => ?_)
  simp (disch := omega) only [go_sem, eq_self]
  first | refine ⟨_, c_swarfref07_SameZ, ?_⟩ | skip
  refine hK11 _ ?_
  simp (disch := omega) only [go_sem, eq_self]
  refine hK10 _ ?_
  clear hK11 K11 hK10 K10
  refine pwp_cond (b := false) (by rfl) (fun h => nomatch h) (fun _ => ?_)
  refine pwp_skip ?_
  refine n_then ?_
  refine pwx_sd Tryz.mixed 0 [some 43, some 44, some 45, some 46, some 47, some 48, some 49, some 50, some 51, some 52, some 53, some 54, some 55, some 56, some 4] (by rfl) [] (by kernel_rfl) (by simp) (fun K12 hK12 => ?_)
  refine rgnX_take 5 (fun K13 hK13 => ?_)
  simp (disch := omega) only [go_sem, eq_self]
  first | refine ⟨_, c_point_X _ _ _ _ _, ?_⟩ | skip
  refine hK13 _ ?_
  refine rgnX_take 2 (fun K14 hK14 => ?_)
  simp (disch := omega) only [go_sem, eq_self]
  first | refine ⟨_, c_swarfref03_Same _ _ _ _ _ _ (by omega), ?_⟩ | skip
  refine hK14 _ ?_
  refine rgnX_take 3 (fun K15 hK15 => ?_)
  simp (disch := omega) only [go_sem, eq_self]
  first | refine ⟨_, c_point_Y _ _ _ _ _, ?_⟩ | skip
  refine hK15 _ ?_
  refine rgnX_take 2 (fun K16 hK16 => ?_)
  simp (disch := omega) only [go_sem, eq_self]
  first | refine ⟨_, c_swarfref03_Same _ _ _ _ _ _ (by omega), ?_⟩ | skip
  refine hK16 _ ?_
  simp (disch := omega) only [go_sem, eq_self]
  refine hK12 _ ?_
  clear hK16 K16 hK15 K15 hK14 K14 hK13 K13 hK12 K12
  refine pwp_ret ?_
  refine ⟨Or.inr rfl, ?_⟩
  simp (disch := omega) only [go_sem, eq_self]
  all_goals skip

end Go.Proofs.YtbadkjfjdkbgfaaGreat

set_option linter.unusedSimpArgs false
set_option linter.unusedVariables false
set_option maxRecDepth 20000
namespace Go.Proofs.YtbadkjfjdkbgfaaGreat
open Go Go.PL Go.RL
theorem small3_or (n0 n1 n2 n3 n4 n5 : Bool) (l0 l1 l2 l3 l4 l5 : List Nat) : Ret Tryz.prog 12 [.a [.bool n0, lC l0, .bool n1, lC l1, .bool n2, lC l2, .bool n3, lC l3, .bool n4, lC l4, .bool n5, lC l5], .c (.int .i64 3)] (.e (.c (.bool false))) ∨ ∃ a b c : Rat, SzR a 3 ∧ SzR b 3 ∧ SzR c 3 ∧ vld3 b c = true ∧ ([.bool n0, lC l0, .bool n1, lC l1, .bool n2, lC l2, .bool n3, lC l3, .bool n4, lC l4, .bool n5, lC l5] : List PC) = ratC a ++ (ratC b ++ ratC c) ∧ Ret Tryz.prog 12 [.a (ratC a ++ (ratC b ++ ratC c)), .c (.int .i64 3)] (.e (.c (.bool true))) := by
  rcases h1 : smlR 3 n0 l0 n1 l1 with _ | _
  · exact .inl (c_swarfref03_Small_0 n0 n1 n2 n3 n4 n5 l0 l1 l2 l3 l4 l5 3 (by omega) h1)
  rcases h2 : smlR 3 n2 l2 n3 l3 with _ | _
  · exact .inl (c_swarfref03_Small_1 n0 n1 n2 n3 n4 n5 l0 l1 l2 l3 l4 l5 3 (by omega) h1 h2)
  rcases h3 : smlR 3 n4 l4 n5 l5 with _ | _
  · exact .inl (c_swarfref03_Small_2 n0 n1 n2 n3 n4 n5 l0 l1 l2 l3 l4 l5 3 (by omega) h1 h2 h3)
  obtain ⟨a, ha, rfl, rfl, rfl, rfl⟩ := smlR_true h1
  obtain ⟨b, hb, rfl, rfl, rfl, rfl⟩ := smlR_true h2
  obtain ⟨c, hc, rfl, rfl, rfl, rfl⟩ := smlR_true h3
  have h := c_swarfref03_Small a b c 3 (by omega)
  rcases hv : vld3 b c with _ | _
  · rw [hv] at h; exact .inl h
  · rw [hv] at h; exact .inr ⟨a, b, c, ha, hb, hc, hv, rfl, h⟩
theorem r_PointMake (n0 n1 n2 n3 n4 n5 : Bool) (l0 l1 l2 l3 l4 l5 : List Nat) (m0 m1 m2 m3 m4 m5 : Bool) (o0 o1 o2 o3 o4 o5 : List Nat) : Ret Tryz.prog 3 [.a [.bool n0, lC l0, .bool n1, lC l1, .bool n2, lC l2, .bool n3, lC l3, .bool n4, lC l4, .bool n5, lC l5], .a [.bool m0, lC o0, .bool m1, lC o1, .bool m2, lC o2, .bool m3, lC o3, .bool m4, lC o4, .bool m5, lC o5]] (.e (.c (.bool true))) := by
  rcases small3_or n0 n1 n2 n3 n4 n5 l0 l1 l2 l3 l4 l5 with h1 | ⟨a, b, c, ha, hb, hc, v1, e1, h1⟩
  · exact w_PointMake_x _ _ _ _ _ _ _ _ _ _ _ _ _ _ _ _ _ _ _ _ _ _ _ _ h1
  rcases small3_or m0 m1 m2 m3 m4 m5 o0 o1 o2 o3 o4 o5 with h2 | ⟨a', b', c', ha', hb', hc', v2, e2, h2⟩
  · rw [← e1] at h1; exact w_PointMake_y _ _ _ _ _ _ _ _ _ _ _ _ _ _ _ _ _ _ _ _ _ _ _ _ h1 h2
  rw [e1, e2]
  by_cases hm : b = 0 ∨ b' = 0 ∨ c = c'
  · exact w_PointMake_t a b c a' b' c' v1 v2 h1 h2 hm
  · exact w_PointMake_f a b c a' b' c' v1 v2 h1 h2 hm

end Go.Proofs.YtbadkjfjdkbgfaaGreat
