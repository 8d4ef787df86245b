/- Signs of sums with two roots in the walks: exact. Conditions: each lemma's own.
   The walks of signs of sums with two roots, third part. Conditions: none.
   The walks of signs of sums with two roots, fourth part. Conditions: none.
   The walks of the reference's signs of sums with two roots. Conditions: none.
   Points in the walks. Conditions: each lemma's own.
   The walks of points, first part. Conditions: none.
   The walks of the reference's points, first part. Conditions: none.
   The walks of the reference's points, second part. Conditions: none.
   The walks of the reference's points, third part. Conditions: none.
   The examples of the chapter on points in the walks. Conditions: each lemma's own. -/
import Derived.Test.YtbadkjfjdkbgfaaGreatQ6
set_option linter.unusedVariables false
set_option linter.unusedSimpArgs false
namespace Go.PL
open Go.RL
theorem sgnQ_cases (q : Rat) : sgnQ q = 1 ∨ sgnQ q = -1 ∨ sgnQ q = 0 := by
  unfold sgnQ; repeat' split
  all_goals simp
theorem sgnQ_bd (q : Rat) : -1 ≤ sgnQ q ∧ sgnQ q ≤ 1 := by rcases sgnQ_cases q with h | h | h <;> omega
theorem mul_bd {x y : Int} (hx : -1 ≤ x ∧ x ≤ 1) (hy : -1 ≤ y ∧ y ≤ 1) : -1 ≤ x * y ∧ x * y ≤ 1 := by
  obtain ⟨a, b⟩ := hx; obtain ⟨c, d⟩ := hy
  have : x = -1 ∨ x = 0 ∨ x = 1 := by omega
  rcases this with rfl | rfl | rfl <;> omega
theorem cmpQ_bd (p q : Rat) : -1 ≤ cmpQ p q ∧ cmpQ p q ≤ 1 := sgnQ_bd _
variable {a b m : Rat}
theorem two_bd (a b m : Rat) : -1 ≤ two a b m ∧ two a b m ≤ 1 := by
  unfold two
  simp only
  have h1 := sgnQ_bd a
  have h2 := mul_bd (sgnQ_bd b) (sgnQ_bd m)
  have h3 := mul_bd (sgnQ_bd a) (cmpQ_bd (a * a) (b * b * m))
  split
  · exact h2
  · split
    · exact h1
    · exact h3
theorem two_1 (h : sgnQ b * sgnQ m = 0) : two a b m = sgnQ a := by
  unfold two; simp only [h]
  split
  · rename_i h'; exact h'.symm
  · simp
theorem two_2 (h : sgnQ a = sgnQ b * sgnQ m) : two a b m = sgnQ a := by
  unfold two; simp only [← h]
  split
  · rfl
  · simp
theorem two_3 (h : sgnQ a = 0) : two a b m = sgnQ b * sgnQ m := if_pos h
theorem two_4 (h : ¬ sgnQ b * sgnQ m = 0) (h1 : ¬ sgnQ a = sgnQ b * sgnQ m) (h2 : ¬ sgnQ a = 0) : two a b m = sgnQ a * cmpQ (a * a) (b * b * m) := by
  unfold two; rw [if_neg h2, if_neg (by rintro (h' | h') <;> contradiction)]
/-- apart -/
def apF (i j : Iv) : Int × Bool := if i.ok = false ∨ j.ok = false then (0, false) else if i.hi < j.lo then (-1, true) else if j.hi < i.lo then (1, true) else (0, false)
variable {i j : Iv}
theorem apF_1 (h : i.ok = false ∨ j.ok = false) : apF i j = (0, false) := if_pos h
theorem apF_2 (h : i.ok = true) (h' : j.ok = true) (h2 : i.hi < j.lo) : apF i j = (-1, true) := by unfold apF; rw [if_neg (by rw [h, h']; simp), if_pos h2]
theorem apF_3 (h : i.ok = true) (h' : j.ok = true) (h2 : ¬ i.hi < j.lo) (h3 : j.hi < i.lo) : apF i j = (1, true) := by unfold apF; rw [if_neg (by rw [h, h']; simp), if_neg h2, if_pos h3]
theorem apF_4 (h : i.ok = true) (h' : j.ok = true) (h2 : ¬ i.hi < j.lo) (h3 : ¬ j.hi < i.lo) : apF i j = (0, false) := by unfold apF; rw [if_neg (by rw [h, h']; simp), if_neg h2, if_neg h3]
theorem inI_sub {a b c d : Int} {x y : Re} (h : inI a b x) (h' : inI c d y) : inI (a + -d) (b + -c) (x - y) := inI_add h (inI_neg h')
theorem apF_ok {x y : Re} (hx : i.ok = true → inI i.lo i.hi x) (hy : j.ok = true → inI j.lo j.hi y) (h : (apF i j).2 = true) : (apF i j).1 = sgn (x - y) := by
  unfold apF at h ⊢
  split
  · rename_i c; rw [if_pos c] at h; cases h
  · rename_i c
    rw [if_neg c] at h
    simp only [not_or] at c
    have hs := inI_sub (hx (bfalse c.1)) (hy (bfalse c.2))
    split
    · exact (inI_negv hs (by omega)).symm
    · rename_i c2
      rw [if_neg c2] at h
      split
      · exact (inI_pos hs (by omega)).symm
      · rename_i c3; rw [if_neg c3] at h; cases h
/-- The order of two roots. -/
def cmpR (a b c a' b' c' : Rat) : Int := quad (a - a') b (-b') 0 c c'
variable {a b c a' b' c' : Rat}
theorem v4_sub : v4 (a - a') b (-b') 0 c c' = v2 a b c - v2 a' b' c' := by
  apply Re.ext; intro n
  show (a - a') + b * (rt c).s n + (-b' + 0 * (rt c).s n) * (rt c').s n = (a + b * (rt c).s n) + -(a' + b' * (rt c').s n)
  grind
theorem cmpR_eq (hc : 0 ≤ c) (hc' : 0 ≤ c') : cmpR a b c a' b' c' = sgn (v2 a b c - v2 a' b' c') := by
  unfold cmpR; rw [quad_eq hc hc', v4_sub]
theorem cmpR_0 (hc : 0 ≤ c) (hc' : 0 ≤ c') : cmpR a 0 c a' 0 c' = cmpQ a a' := by
  rw [cmpR_eq hc hc', v2_b0, v2_b0, ← Re.of_sub, sgn_of]; rfl
theorem cmpR_ap (hc : 0 ≤ c) (hc' : 0 ≤ c') (h : (apF (rooF a b c) (rooF a' b' c')).2 = true) : (apF (rooF a b c) (rooF a' b' c')).1 = cmpR a b c a' b' c' := by
  rw [cmpR_eq hc hc']
  exact apF_ok rooF_ok rooF_ok h
theorem cmpR_same (hc : 0 ≤ c) : cmpR a b c a' b' c = two (a - a') (b - b') c := by
  rw [cmpR_eq hc hc, two_eq hc]
  congr 1
  apply Re.ext; intro n
  show (a + b * (rt c).s n) + -(a' + b' * (rt c).s n) = (a - a') + (b - b') * (rt c).s n
  grind
theorem two_r1 (h : sgnQ a = 0) : two a b m = sgnQ b * sgnQ m := if_pos h
theorem two_r2 (h : sgnQ a = 0 ∨ sgnQ b * sgnQ m = 0 ∨ sgnQ a = sgnQ b * sgnQ m) (h' : ¬ sgnQ a = 0) : two a b m = sgnQ a := by
  rcases h with h | h | h
  · contradiction
  · exact two_1 h
  · exact two_2 h
variable {A B C D M N : Rat}
theorem quad_0 (h : M < 0 ∨ N < 0) : quad A B C D M N = 0 := if_pos h
theorem quad_q (h : ¬ M < 0) (h' : ¬ N < 0) (hq : (quF A B C D M N).2 = true) : (quF A B C D M N).1 = quad A B C D M N := quF_ok (Rat.not_lt.1 h) (Rat.not_lt.1 h') hq
theorem quad_1 (h : ¬ M < 0) (h' : ¬ N < 0) (h1 : two C D M * sgnQ N = 0) : quad A B C D M N = two A B M := by
  unfold quad
  rw [if_neg (by rintro (c | c) <;> contradiction)]
  simp only [h1]
  split
  · rename_i h'; exact h'.symm
  · simp
theorem quad_2 (h : ¬ M < 0) (h' : ¬ N < 0) (h1 : two A B M = two C D M * sgnQ N) : quad A B C D M N = two A B M := by
  unfold quad
  rw [if_neg (by rintro (c | c) <;> contradiction)]
  simp only [← h1]
  split
  · rfl
  · simp
theorem quad_3 (h : ¬ M < 0) (h' : ¬ N < 0) (h1 : two A B M = 0) : quad A B C D M N = two C D M * sgnQ N := by
  unfold quad
  rw [if_neg (by rintro (c | c) <;> contradiction), if_pos h1]
theorem quad_4 (h : ¬ M < 0) (h' : ¬ N < 0) (h1 : ¬ two C D M * sgnQ N = 0) (h2 : ¬ two A B M = two C D M * sgnQ N) (h3 : ¬ two A B M = 0) :
    quad A B C D M N = two A B M * two (A * A + M * (B * B) - N * (C * C + M * (D * D))) ((A * B - N * (C * D)) + (A * B - N * (C * D))) M := by
  unfold quad
  rw [if_neg (by rintro (c | c) <;> contradiction), if_neg h3, if_neg (by rintro (c | c) <;> contradiction), Rat.mul_comm M (B * B), Rat.mul_comm M (D * D)]
theorem quad_r2 (h : ¬ M < 0) (h' : ¬ N < 0) (h1 : two A B M = 0 ∨ two C D M * sgnQ N = 0 ∨ two A B M = two C D M * sgnQ N) (h2 : ¬ two A B M = 0) : quad A B C D M N = two A B M := by
  rcases h1 with c | c | c
  · contradiction
  · exact quad_1 h h' c
  · exact quad_2 h h' c
theorem quad_r4 (h : ¬ M < 0) (h' : ¬ N < 0) (h1 : ¬ two C D M * sgnQ N = 0) (h2 : ¬ two A B M = two C D M * sgnQ N) (h3 : ¬ two A B M = 0) :
    quad A B C D M N = two A B M * two (A * A + B * B * M - N * (C * C + D * D * M)) ((A * B - N * (C * D)) + (A * B - N * (C * D))) M := by
  unfold quad
  rw [if_neg (by rintro (c | c) <;> contradiction), if_neg h3, if_neg (by rintro (c | c) <;> contradiction)]
end Go.PL

set_option linter.unusedSimpArgs false
set_option linter.unusedVariables false
set_option maxRecDepth 20000
namespace Go.Proofs.YtbadkjfjdkbgfaaGreat
open Go Go.PL Go.RL
set_option maxHeartbeats 4000000 in
theorem c_radical_plain (a b m : Rat) {k l o : Nat} [SzR a k] [SzR b l] [SzR m o] (hk : k + l + o ≤ 40000) :
    Ret Tryz.prog 94 [.a (ratC a), .a (ratC b), .a (ratC m)] (.e (.c (.int .i64 (two a b m)))) := by
  refine ret_of_body (md := {}) Tryz.func94 (by kernel_rfl) rfl ?_
  simp only [Tryz.f94, List.map_cons, List.map_nil, List.length_cons, List.length_nil, Nat.zero_add, Nat.reduceAdd, Nat.reduceSub, List.reduceReplicate, List.cons_append, List.nil_append]
  have h1 := mul_bd (sgnQ_bd b) (sgnQ_bd m)
  have h2 := mul_bd (sgnQ_bd a) (cmpQ_bd (a * a) (b * b * m))
  refine pwx_sr 3 [] (by rfl) (fun K1 hK1 => ?_)
  simp (disch := omega) only [go_sem]
  refine hK1 _ ?_
  clear hK1 K1
  refine pwx_sd Tryz.mixed 0 [] (by rfl) [] (by kernel_rfl) (by simp) (fun K2 hK2 => ?_)
  refine rgnX_take 2 (fun K3 hK3 => ?_)
  simp (disch := omega) only [go_sem]
  refine ⟨_, c_rational_Sign _, ?_⟩
  refine hK3 _ ?_
  refine rgnX_take 2 (fun K4 hK4 => ?_)
  simp (disch := omega) only [go_sem]
  refine ⟨_, c_rational_Sign _, ?_⟩
  refine hK4 _ ?_
  refine rgnX_take 2 (fun K5 hK5 => ?_)
  simp (disch := omega) only [go_sem]
  refine ⟨_, c_rational_Sign _, ?_⟩
  refine hK5 _ ?_
  simp (disch := omega) only [go_sem]
  refine hK2 _ ?_
  clear hK5 K5 hK4 K4 hK3 K3 hK2 K2
  refine pwp_seq ?_
  refine pwp_block ?_
  by_cases h0 : sgnQ b * sgnQ m = 0
  · refine pwx_sr 0 [some 17, some 18, some 19, some 20, some 21, some 22, some 23, some 16] (by rfl) (fun K6 hK6 => ?_)
    simp (disch := omega) only [go_sem]
    refine hK6 _ ?_
    clear hK6 K6
    refine pwp_cond (b := true) (by rfl) (fun _ => ?_) (fun h => nomatch h)
    refine pwx_sr 0 [] (by rfl) (fun K7 hK7 => ?_)
    simp (disch := omega) only [go_sem]
    refine hK7 _ ?_
    clear hK7 K7
    refine pwp_ret ?_
    refine r_block ?_
    refine r_then ?_
    refine ⟨Or.inr rfl, ?_⟩
    simp (disch := omega) only [go_sem]
    rw [two_1 h0]
  · refine pwx_sr 0 [some 17, some 18, some 19, some 20, some 21, some 22, some 23, some 16] (by rfl) (fun K8 hK8 => ?_)
    simp (disch := omega) only [go_sem]
    refine hK8 _ ?_
    clear hK8 K8
    refine pwp_cond (b := _) (by rfl) (fun hb1 => ?_) (fun hb1 => ?_)
    · first | replace hb1 := of_decide_eq_true hb1 | replace hb1 := of_decide_eq_false hb1 | skip
      refine pwx_sr 0 [] (by rfl) (fun K9 hK9 => ?_)
      simp (disch := omega) only [go_sem]
      refine hK9 _ ?_
      clear hK9 K9
      refine pwp_ret ?_
      refine r_block ?_
      refine r_then ?_
      refine ⟨Or.inr rfl, ?_⟩
      simp (disch := omega) only [go_sem]
      rw [two_2 hb1]
    · first | replace hb1 := of_decide_eq_true hb1 | replace hb1 := of_decide_eq_false hb1 | skip
      refine pwx_sr 0 [] (by rfl) (fun K10 hK10 => ?_)
      simp (disch := omega) only [go_sem]
      refine hK10 _ ?_
      clear hK10 K10
      refine pwp_cond (b := _) (by rfl) (fun hb2 => ?_) (fun hb2 => ?_)
      · first | replace hb2 := of_decide_eq_true hb2 | replace hb2 := of_decide_eq_false hb2 | skip
        refine pwx_sr 0 [] (by rfl) (fun K11 hK11 => ?_)
        simp (disch := omega) only [go_sem]
        refine hK11 _ ?_
        clear hK11 K11
        refine pwp_ret ?_
        refine r_block ?_
        refine r_then ?_
        refine ⟨Or.inr rfl, ?_⟩
        simp (disch := omega) only [go_sem]
        rw [two_3 (by rw [sgnQ_eqz]; exact hb2)]
      · first | replace hb2 := of_decide_eq_true hb2 | replace hb2 := of_decide_eq_false hb2 | skip
        refine pwp_skip ?_
        refine n_block ?_
        refine n_then ?_
        refine pwx_sd Tryz.mixed 0 [] (by rfl) [] (by kernel_rfl) (by simp) (fun K12 hK12 => ?_)
        refine rgnX_take 4 (fun K13 hK13 => ?_)
        simp (disch := omega) only [go_sem]
        refine ⟨_, c_rational_Mul _ _ (by omega), ?_⟩
        refine hK13 _ ?_
        refine rgnX_take 3 (fun K14 hK14 => ?_)
        simp (disch := omega) only [go_sem]
        refine ⟨_, c_rational_Mul _ _ (by omega), ?_⟩
        refine hK14 _ ?_
        refine rgnX_take 2 (fun K15 hK15 => ?_)
        simp (disch := omega) only [go_sem]
        refine ⟨_, c_rational_Mul _ _ (by omega), ?_⟩
        refine hK15 _ ?_
        refine rgnX_take 1 (fun K16 hK16 => ?_)
        simp (disch := omega) only [go_sem]
        refine ⟨_, c_rational_Cmp _ _ (by omega), ?_⟩
        refine hK16 _ ?_
        simp (disch := omega) only [go_sem]
        refine hK12 _ ?_
        clear hK16 K16 hK15 K15 hK14 K14 hK13 K13 hK12 K12
        refine pwp_ret ?_
        refine ⟨Or.inr rfl, ?_⟩
        simp (disch := omega) only [go_sem]
        rw [two_4 h0 hb1 (by rw [sgnQ_eqz]; exact hb2)]
set_option maxHeartbeats 4000000 in
theorem c_radical_copied (a : Rat) {k : Nat} [SzR a k] (hk : k ≤ 40000) :
    Ret Tryz.prog 138 [.a (ratC a)] (.e (.a (ratC a))) := by
  refine ret_of_body (md := {}) Tryz.func138 (by kernel_rfl) rfl ?_
  simp only [Tryz.f138, List.map_cons, List.map_nil, List.length_cons, List.length_nil, Nat.zero_add, Nat.reduceAdd, Nat.reduceSub, List.reduceReplicate, List.cons_append, List.nil_append]
  refine pwx_sr 2 [] (by rfl) (fun K1 hK1 => ?_)
  simp (disch := omega) only [go_sem]
  refine hK1 _ ?_
  clear hK1 K1
  refine pwx_sr 0 [] (by rfl) (fun K2 hK2 => ?_)
  refine rgnX_take 2 (fun K3 hK3 => ?_)
  simp (disch := omega) only [go_sem]
  refine ⟨_, c_rational_Neg _ (by omega), ?_⟩
  refine hK3 _ ?_
  refine rgnX_take 1 (fun K4 hK4 => ?_)
  simp (disch := omega) only [go_sem]
  refine ⟨_, c_rational_Neg _ (by omega), ?_⟩
  refine hK4 _ ?_
  simp (disch := omega) only [go_sem]
  refine hK2 _ ?_
  clear hK4 K4 hK3 K3 hK2 K2
  refine pwp_ret ?_
  refine ⟨Or.inr rfl, ?_⟩
  simp (disch := omega) only [go_sem]
  all_goals rw [Rat.neg_neg]
set_option maxHeartbeats 4000000 in
theorem c_radical_add (a b : Rat) {k l : Nat} [SzR a k] [SzR b l] (hkl : k + l ≤ 150000) :
    Ret Tryz.prog 137 [.a (ratC a), .a (ratC b)] (.e (.a (ratC (a + b)))) := by
  refine ret_of_body (md := {}) Tryz.func137 (by kernel_rfl) rfl ?_
  simp only [Tryz.f137, List.map_cons, List.map_nil, List.length_cons, List.length_nil, Nat.zero_add, Nat.reduceAdd, Nat.reduceSub, List.reduceReplicate, List.cons_append, List.nil_append]
  refine pwx_sr 3 [] (by rfl) (fun K1 hK1 => ?_)
  simp (disch := omega) only [go_sem]
  refine hK1 _ ?_
  clear hK1 K1
  refine pwx_sr 0 [] (by rfl) (fun K2 hK2 => ?_)
  refine rgnX_take 3 (fun K3 hK3 => ?_)
  simp (disch := omega) only [go_sem]
  refine ⟨_, c_rational_Add _ _ (by omega), ?_⟩
  refine hK3 _ ?_
  simp (disch := omega) only [go_sem]
  refine hK2 _ ?_
  clear hK3 K3 hK2 K2
  refine pwp_ret ?_
  refine ⟨Or.inr rfl, ?_⟩
  simp (disch := omega) only [go_sem]
set_option maxHeartbeats 4000000 in
theorem c_radical_Sub (a b c a' b' c' : Rat) {k l m k' l' m' : Nat} [SzR a k] [SzR b l] [SzR c m] [SzR a' k'] [SzR b' l'] [SzR c' m'] (hk : k + l + m + k' + l' + m' ≤ 20000) :
    Ret Tryz.prog 96 [.a (ratC (a) ++ (ratC (b) ++ ratC (c))), .a (ratC (a') ++ (ratC (b') ++ ratC (c')))] (.e (.a (ratC (a - a') ++ (ratC b ++ (ratC (-b') ++ (ratC 0 ++ (ratC c ++ ratC c'))))))) := by
  refine ret_of_body (md := {}) Tryz.func96 (by kernel_rfl) rfl ?_
  simp only [Tryz.f96, List.map_cons, List.map_nil, List.length_cons, List.length_nil, Nat.zero_add, Nat.reduceAdd, Nat.reduceSub, List.reduceReplicate, List.cons_append, List.nil_append]
  refine pwx_sr 3 [] (by rfl) (fun K1 hK1 => ?_)
  simp (disch := omega) only [go_sem]
  refine hK1 _ ?_
  clear hK1 K1
  refine pwx_sd Tryz.mixed 0 [] (by rfl) [] (by kernel_rfl) (by simp) (fun K2 hK2 => ?_)
  refine rgnX_take 5 (fun K3 hK3 => ?_)
  simp (disch := omega) only [go_sem]
  refine ⟨_, c_rational_Sub _ _ (by omega), ?_⟩
  refine hK3 _ ?_
  refine rgnX_take 3 (fun K4 hK4 => ?_)
  simp (disch := omega) only [go_sem]
  refine ⟨_, c_radical_copied _ (by omega), ?_⟩
  refine hK4 _ ?_
  refine rgnX_take 3 (fun K5 hK5 => ?_)
  simp (disch := omega) only [go_sem]
  refine ⟨_, c_rational_Neg _ (by omega), ?_⟩
  refine hK5 _ ?_
  refine rgnX_take 1 (fun K6 hK6 => ?_)
  simp (disch := omega) only [go_sem]
  refine ⟨_, c_rational_FromInt64 _ (by omega) (by omega), ?_⟩
  refine hK6 _ ?_
  refine rgnX_take 3 (fun K7 hK7 => ?_)
  simp (disch := omega) only [go_sem]
  refine ⟨_, c_radical_copied _ (by omega), ?_⟩
  refine hK7 _ ?_
  refine rgnX_take 3 (fun K8 hK8 => ?_)
  simp (disch := omega) only [go_sem]
  refine ⟨_, c_radical_copied _ (by omega), ?_⟩
  refine hK8 _ ?_
  simp (disch := omega) only [go_sem]
  refine hK2 _ ?_
  clear hK8 K8 hK7 K7 hK6 K6 hK5 K5 hK4 K4 hK3 K3 hK2 K2
  refine pwp_ret ?_
  refine ⟨Or.inr rfl, ?_⟩
  simp (disch := omega) only [go_sem]
  all_goals rfl

end Go.Proofs.YtbadkjfjdkbgfaaGreat

set_option linter.unusedSimpArgs false
set_option linter.unusedVariables false
set_option maxRecDepth 20000
namespace Go.Proofs.YtbadkjfjdkbgfaaGreat
open Go Go.PL Go.RL
set_option maxHeartbeats 4000000 in
theorem c_radical_apart (a b c a' b' c' : Rat) {k l m k' l' m' : Nat} [SzR a k] [SzR b l] [SzR c m] [SzR a' k'] [SzR b' l'] [SzR c' m'] (hk : k + l + m + k' + l' + m' ≤ 20000) :
    Ret Tryz.prog 93 [.a (ratC (a) ++ (ratC (b) ++ ratC (c))), .a (ratC (a') ++ (ratC (b') ++ ratC (c')))] (.t [.c (.int .i64 (apF (rooF a b c) (rooF a' b' c')).1), .c (.bool (apF (rooF a b c) (rooF a' b' c')).2)]) := by
  refine ret_of_body (md := {}) Tryz.func93 (by kernel_rfl) rfl ?_
  simp only [Tryz.f93, List.map_cons, List.map_nil, List.length_cons, List.length_nil, Nat.zero_add, Nat.reduceAdd, Nat.reduceSub, List.reduceReplicate, List.cons_append, List.nil_append]
  refine pwx_sr 2 [] (by rfl) (fun K1 hK1 => ?_)
  simp (disch := omega) only [go_sem]
  refine hK1 _ ?_
  clear hK1 K1
  refine pwx_sr 1 [] (by rfl) (fun K2 hK2 => ?_)
  refine rgnX_take 2 (fun K3 hK3 => ?_)
  simp (disch := omega) only [go_sem]
  refine ⟨_, c_filter_Root _ _ _ (by omega), ?_⟩
  refine hK3 _ ?_
  simp (disch := omega) only [go_sem]
  refine hK2 _ ?_
  clear hK3 K3 hK2 K2
  refine pwx_sr 1 [] (by rfl) (fun K4 hK4 => ?_)
  refine rgnX_take 2 (fun K5 hK5 => ?_)
  simp (disch := omega) only [go_sem]
  refine ⟨_, c_filter_Root _ _ _ (by omega), ?_⟩
  refine hK5 _ ?_
  simp (disch := omega) only [go_sem]
  refine hK4 _ ?_
  clear hK5 K5 hK4 K4
  refine pwp_seq ?_
  refine pwp_block ?_
  rcases h1 : (rooF a b c).ok with _ | _ <;> rcases h2 : (rooF a' b' c').ok with _ | _
  · refine pwx_sr 0 [some 21, some 22, some 23, some 24, some 25, some 26, some 20] (by rfl) (fun K6 hK6 => ?_)
    simp (disch := omega) only [go_sem, h1, h2]
    refine hK6 _ ?_
    clear hK6 K6
    refine pwp_cond (b := true) (by rfl) (fun _ => ?_) (fun h => nomatch h)
    refine pwx_sr 0 [] (by rfl) (fun K7 hK7 => ?_)
    simp (disch := omega) only [go_sem]
    refine hK7 _ ?_
    clear hK7 K7
    refine pwp_ret ?_
    refine r_block ?_
    refine r_then ?_
    refine ⟨Or.inr rfl, ?_⟩
    simp (disch := omega) only [go_sem]
    rw [apF_1 (by simp [h1])]; exact ⟨rfl, rfl⟩
  · refine pwx_sr 0 [some 21, some 22, some 23, some 24, some 25, some 26, some 20] (by rfl) (fun K8 hK8 => ?_)
    simp (disch := omega) only [go_sem, h1, h2]
    refine hK8 _ ?_
    clear hK8 K8
    refine pwp_cond (b := true) (by rfl) (fun _ => ?_) (fun h => nomatch h)
    refine pwx_sr 0 [] (by rfl) (fun K9 hK9 => ?_)
    simp (disch := omega) only [go_sem]
    refine hK9 _ ?_
    clear hK9 K9
    refine pwp_ret ?_
    refine r_block ?_
    refine r_then ?_
    refine ⟨Or.inr rfl, ?_⟩
    simp (disch := omega) only [go_sem]
    rw [apF_1 (by simp [h1])]; exact ⟨rfl, rfl⟩
  · refine pwx_sr 0 [some 21, some 22, some 23, some 24, some 25, some 26, some 20] (by rfl) (fun K10 hK10 => ?_)
    simp (disch := omega) only [go_sem, h1, h2]
    refine hK10 _ ?_
    clear hK10 K10
    refine pwp_cond (b := true) (by rfl) (fun _ => ?_) (fun h => nomatch h)
    refine pwx_sr 0 [] (by rfl) (fun K11 hK11 => ?_)
    simp (disch := omega) only [go_sem]
    refine hK11 _ ?_
    clear hK11 K11
    refine pwp_ret ?_
    refine r_block ?_
    refine r_then ?_
    refine ⟨Or.inr rfl, ?_⟩
    simp (disch := omega) only [go_sem]
    rw [apF_1 (by simp [h2])]; exact ⟨rfl, rfl⟩
  · refine pwx_sr 0 [some 21, some 22, some 23, some 24, some 25, some 26, some 20] (by rfl) (fun K12 hK12 => ?_)
    simp (disch := omega) only [go_sem, h1, h2]
    refine hK12 _ ?_
    clear hK12 K12
    refine pwp_cond (b := false) (by rfl) (fun h => nomatch h) (fun _ => ?_)
    refine pwx_sr 0 [] (by rfl) (fun K13 hK13 => ?_)
    simp (disch := omega) only [go_sem]
    refine hK13 _ ?_
    clear hK13 K13
    refine pwp_cond (b := _) (by rfl) (fun hb4 => ?_) (fun hb4 => ?_)
    · first | replace hb4 := of_decide_eq_true hb4 | replace hb4 := of_decide_eq_false hb4 | skip
      refine pwx_sr 0 [] (by rfl) (fun K14 hK14 => ?_)
      simp (disch := omega) only [go_sem]
      refine hK14 _ ?_
      clear hK14 K14
      refine pwp_ret ?_
      refine r_block ?_
      refine r_then ?_
      refine ⟨Or.inr rfl, ?_⟩
      simp (disch := omega) only [go_sem]
      rw [apF_2 h1 h2 (by assumption)]; exact ⟨rfl, rfl⟩
    · first | replace hb4 := of_decide_eq_true hb4 | replace hb4 := of_decide_eq_false hb4 | skip
      refine pwx_sr 0 [] (by rfl) (fun K15 hK15 => ?_)
      simp (disch := omega) only [go_sem]
      refine hK15 _ ?_
      clear hK15 K15
      refine pwp_cond (b := _) (by rfl) (fun hb5 => ?_) (fun hb5 => ?_)
      · first | replace hb5 := of_decide_eq_true hb5 | replace hb5 := of_decide_eq_false hb5 | skip
        refine pwx_sr 0 [] (by rfl) (fun K16 hK16 => ?_)
        simp (disch := omega) only [go_sem]
        refine hK16 _ ?_
        clear hK16 K16
        refine pwp_ret ?_
        refine r_block ?_
        refine r_then ?_
        refine ⟨Or.inr rfl, ?_⟩
        simp (disch := omega) only [go_sem]
        rw [apF_3 h1 h2 (by assumption) (by assumption)]; exact ⟨rfl, rfl⟩
      · first | replace hb5 := of_decide_eq_true hb5 | replace hb5 := of_decide_eq_false hb5 | skip
        refine pwp_skip ?_
        refine n_block ?_
        refine n_then ?_
        refine pwx_sr 0 [] (by rfl) (fun K17 hK17 => ?_)
        simp (disch := omega) only [go_sem]
        refine hK17 _ ?_
        clear hK17 K17
        refine pwp_ret ?_
        refine ⟨Or.inr rfl, ?_⟩
        simp (disch := omega) only [go_sem]
        rw [apF_4 h1 h2 (by assumption) (by assumption)]; exact ⟨rfl, rfl⟩
set_option maxHeartbeats 4000000 in
theorem c_radical_Sign (A B C D M N : Rat) {kA kB kC kD kM kN : Nat} [SzR A kA] [SzR B kB] [SzR C kC] [SzR D kD] [SzR M kM] [SzR N kN] (hk : kA + kB + kC + kD + kM + kN ≤ 5000) :
    Ret Tryz.prog 95 [.a (ratC A ++ (ratC B ++ (ratC C ++ (ratC D ++ (ratC M ++ ratC N)))))] (.e (.c (.int .i64 (quad A B C D M N)))) := by
  refine ret_of_body (md := {}) Tryz.func95 (by kernel_rfl) rfl ?_
  simp only [Tryz.f95, List.map_cons, List.map_nil, List.length_cons, List.length_nil, Nat.zero_add, Nat.reduceAdd, Nat.reduceSub, List.reduceReplicate, List.cons_append, List.nil_append]
  have b1 := two_bd A B M
  have b2 := two_bd C D M
  have b3 := mul_bd b2 (sgnQ_bd N)
  have b4 := mul_bd b1 (two_bd (A * A + M * (B * B) - N * (C * C + M * (D * D))) ((A * B - N * (C * D)) + (A * B - N * (C * D))) M)
  refine pwx_sr 1 [] (by rfl) (fun K1 hK1 => ?_)
  simp (disch := omega) only [go_sem]
  refine hK1 _ ?_
  clear hK1 K1
  refine pwp_seq ?_
  by_cases h0 : M < 0
  · refine pwx_sr 0 [some 11, some 12, some 13, some 14, some 15, some 16, some 17, some 18, some 19, some 20] (by rfl) (fun K2 hK2 => ?_)
    refine rgnX_take 3 (fun K3 hK3 => ?_)
    simp (disch := omega) only [go_sem]
    refine ⟨_, c_rational_Sign _, ?_⟩
    refine hK3 _ ?_
    refine rgnX_take 5 (fun K4 hK4 => ?_)
    simp (disch := omega) only [go_sem]
    first | refine ⟨_, c_rational_Sign _, ?_⟩ | skip
    refine hK4 _ ?_
    simp (disch := omega) only [go_sem]
    refine hK2 _ ?_
    clear hK4 K4 hK3 K3 hK2 K2
    refine pwp_cond (b := true) (by rfl) (fun _ => ?_) (fun h => nomatch h)
    refine pwx_sr 0 [] (by rfl) (fun K5 hK5 => ?_)
    simp (disch := omega) only [go_sem]
    refine hK5 _ ?_
    clear hK5 K5
    refine pwp_ret ?_
    refine r_then ?_
    refine ⟨Or.inr rfl, ?_⟩
    simp (disch := omega) only [go_sem]
    rw [quad_0 (.inl h0)]
  · refine pwx_sr 0 [some 11, some 12, some 13, some 14, some 15, some 16, some 17, some 18, some 19, some 20] (by rfl) (fun K6 hK6 => ?_)
    refine rgnX_take 3 (fun K7 hK7 => ?_)
    simp (disch := omega) only [go_sem]
    refine ⟨_, c_rational_Sign _, ?_⟩
    refine hK7 _ ?_
    refine rgnX_take 5 (fun K8 hK8 => ?_)
    simp (disch := omega) only [go_sem]
    first | refine ⟨_, c_rational_Sign _, ?_⟩ | skip
    refine hK8 _ ?_
    simp (disch := omega) only [go_sem]
    refine hK6 _ ?_
    clear hK8 K8 hK7 K7 hK6 K6
    refine pwp_cond (b := _) (by rfl) (fun hb1 => ?_) (fun hb1 => ?_)
    · first | replace hb1 := of_decide_eq_true hb1 | replace hb1 := of_decide_eq_false hb1 | skip
      refine pwx_sr 0 [] (by rfl) (fun K9 hK9 => ?_)
      simp (disch := omega) only [go_sem]
      refine hK9 _ ?_
      clear hK9 K9
      refine pwp_ret ?_
      refine r_then ?_
      refine ⟨Or.inr rfl, ?_⟩
      simp (disch := omega) only [go_sem]
      rw [quad_0 (.inr hb1)]
    · first | replace hb1 := of_decide_eq_true hb1 | replace hb1 := of_decide_eq_false hb1 | skip
      refine pwp_skip ?_
      refine n_then ?_
      refine pwp_seq ?_
      refine pwx_sr 0 [] (by rfl) (fun K10 hK10 => ?_)
      refine rgnX_take 2 (fun K11 hK11 => ?_)
      simp (disch := omega) only [go_sem]
      refine ⟨_, c_radical_quick _ _ _ _ _ _ (by omega), ?_⟩
      refine hK11 _ ?_
      simp (disch := omega) only [go_sem]
      refine hK10 _ ?_
      clear hK11 K11 hK10 K10
      refine pwx_sr 0 [] (by rfl) (fun K12 hK12 => ?_)
      simp (disch := omega) only [go_sem]
      refine hK12 _ ?_
      clear hK12 K12
      refine pwp_cond (b := _) (by rfl) (fun hb2 => ?_) (fun hb2 => ?_)
      · first | replace hb2 := of_decide_eq_true hb2 | replace hb2 := of_decide_eq_false hb2 | skip
        refine pwx_sr 0 [] (by rfl) (fun K13 hK13 => ?_)
        simp (disch := omega) only [go_sem]
        refine hK13 _ ?_
        clear hK13 K13
        refine pwp_ret ?_
        refine r_then ?_
        refine ⟨Or.inr rfl, ?_⟩
        simp (disch := omega) only [go_sem]
        rw [quad_q h0 hb1 hb2]
      · first | replace hb2 := of_decide_eq_true hb2 | replace hb2 := of_decide_eq_false hb2 | skip
        refine pwp_skip ?_
        refine n_then ?_
        refine pwx_sd Tryz.mixed 0 [] (by rfl) [] (by kernel_rfl) (by simp) (fun K14 hK14 => ?_)
        refine rgnX_take 7 (fun K15 hK15 => ?_)
        simp (disch := omega) only [go_sem]
        refine ⟨_, c_radical_plain _ _ _ (by omega), ?_⟩
        refine hK15 _ ?_
        refine rgnX_take 7 (fun K16 hK16 => ?_)
        simp (disch := omega) only [go_sem]
        refine ⟨_, c_radical_plain _ _ _ (by omega), ?_⟩
        refine hK16 _ ?_
        refine rgnX_take 3 (fun K17 hK17 => ?_)
        simp (disch := omega) only [go_sem]
        refine ⟨_, c_rational_Sign _, ?_⟩
        refine hK17 _ ?_
        simp (disch := omega) only [go_sem]
        refine hK14 _ ?_
        clear hK17 K17 hK16 K16 hK15 K15 hK14 K14
        refine pwp_seq ?_
        refine pwp_block ?_
        by_cases h1 : two C D M * sgnQ N = 0
        · refine pwx_sr 0 [some 47, some 48, some 49, some 50, some 51, some 52, some 53, some 46] (by rfl) (fun K18 hK18 => ?_)
          simp (disch := omega) only [go_sem]
          refine hK18 _ ?_
          clear hK18 K18
          refine pwp_cond (b := true) (by rfl) (fun _ => ?_) (fun h => nomatch h)
          refine pwx_sr 0 [] (by rfl) (fun K19 hK19 => ?_)
          simp (disch := omega) only [go_sem]
          refine hK19 _ ?_
          clear hK19 K19
          refine pwp_ret ?_
          refine r_block ?_
          refine r_then ?_
          refine ⟨Or.inr rfl, ?_⟩
          simp (disch := omega) only [go_sem]
          rw [quad_1 h0 hb1 h1]
        · refine pwx_sr 0 [some 47, some 48, some 49, some 50, some 51, some 52, some 53, some 46] (by rfl) (fun K20 hK20 => ?_)
          simp (disch := omega) only [go_sem]
          refine hK20 _ ?_
          clear hK20 K20
          refine pwp_cond (b := _) (by rfl) (fun hb4 => ?_) (fun hb4 => ?_)
          · first | replace hb4 := of_decide_eq_true hb4 | replace hb4 := of_decide_eq_false hb4 | skip
            refine pwx_sr 0 [] (by rfl) (fun K21 hK21 => ?_)
            simp (disch := omega) only [go_sem]
            refine hK21 _ ?_
            clear hK21 K21
            refine pwp_ret ?_
            refine r_block ?_
            refine r_then ?_
            refine ⟨Or.inr rfl, ?_⟩
            simp (disch := omega) only [go_sem]
            rw [quad_2 h0 hb1 (by assumption)]
          · first | replace hb4 := of_decide_eq_true hb4 | replace hb4 := of_decide_eq_false hb4 | skip
            refine pwx_sr 0 [] (by rfl) (fun K22 hK22 => ?_)
            simp (disch := omega) only [go_sem]
            refine hK22 _ ?_
            clear hK22 K22
            refine pwp_cond (b := _) (by rfl) (fun hb5 => ?_) (fun hb5 => ?_)
            · first | replace hb5 := of_decide_eq_true hb5 | replace hb5 := of_decide_eq_false hb5 | skip
              refine pwx_sr 0 [] (by rfl) (fun K23 hK23 => ?_)
              simp (disch := omega) only [go_sem]
              refine hK23 _ ?_
              clear hK23 K23
              refine pwp_ret ?_
              refine r_block ?_
              refine r_then ?_
              refine ⟨Or.inr rfl, ?_⟩
              simp (disch := omega) only [go_sem]
              rw [quad_3 h0 hb1 (by assumption)]
            · first | replace hb5 := of_decide_eq_true hb5 | replace hb5 := of_decide_eq_false hb5 | skip
              refine pwp_skip ?_
              refine n_block ?_
              refine n_then ?_
              refine pwx_sr 0 [] (by rfl) (fun K24 hK24 => ?_)
              simp (disch := omega) only [go_sem]
              refine hK24 _ ?_
              clear hK24 K24
              refine pwx_sr 0 [] (by rfl) (fun K25 hK25 => ?_)
              simp (disch := omega) only [go_sem]
              refine hK25 _ ?_
              clear hK25 K25
              refine pwx_sd Tryz.mixed 1 [] (by rfl) [] (by kernel_rfl) (by simp) (fun K26 hK26 => ?_)
              refine rgnX_take 7 (fun K27 hK27 => ?_)
              simp (disch := omega) only [go_sem]
              refine ⟨_, c_rational_Mul _ _ (by omega), ?_⟩
              refine hK27 _ ?_
              refine rgnX_take 9 (fun K28 hK28 => ?_)
              simp (disch := omega) only [go_sem]
              refine ⟨_, c_rational_Mul _ _ (by omega), ?_⟩
              refine hK28 _ ?_
              refine rgnX_take 1 (fun K29 hK29 => ?_)
              simp (disch := omega) only [go_sem]
              refine ⟨_, c_rational_Mul _ _ (by omega), ?_⟩
              refine hK29 _ ?_
              refine rgnX_take 1 (fun K30 hK30 => ?_)
              simp (disch := omega) only [go_sem]
              refine ⟨_, c_radical_add _ _ (by omega), ?_⟩
              refine hK30 _ ?_
              refine rgnX_take 10 (fun K31 hK31 => ?_)
              simp (disch := omega) only [go_sem]
              refine ⟨_, c_rational_Mul _ _ (by omega), ?_⟩
              refine hK31 _ ?_
              refine rgnX_take 9 (fun K32 hK32 => ?_)
              simp (disch := omega) only [go_sem]
              refine ⟨_, c_rational_Mul _ _ (by omega), ?_⟩
              refine hK32 _ ?_
              refine rgnX_take 1 (fun K33 hK33 => ?_)
              simp (disch := omega) only [go_sem]
              refine ⟨_, c_rational_Mul _ _ (by omega), ?_⟩
              refine hK33 _ ?_
              refine rgnX_take 1 (fun K34 hK34 => ?_)
              simp (disch := omega) only [go_sem]
              refine ⟨_, c_radical_add _ _ (by omega), ?_⟩
              refine hK34 _ ?_
              refine rgnX_take 1 (fun K35 hK35 => ?_)
              simp (disch := omega) only [go_sem]
              refine ⟨_, c_rational_Mul _ _ (by omega), ?_⟩
              refine hK35 _ ?_
              refine rgnX_take 1 (fun K36 hK36 => ?_)
              simp (disch := omega) only [go_sem]
              refine ⟨_, c_rational_Sub _ _ (by omega), ?_⟩
              refine hK36 _ ?_
              simp (disch := omega) only [go_sem]
              refine hK26 _ ?_
              clear hK36 K36 hK35 K35 hK34 K34 hK33 K33 hK32 K32 hK31 K31 hK30 K30 hK29 K29 hK28 K28 hK27 K27 hK26 K26
              refine pwx_sd Tryz.mixed 1 [] (by rfl) [] (by kernel_rfl) (by simp) (fun K37 hK37 => ?_)
              refine rgnX_take 6 (fun K38 hK38 => ?_)
              simp (disch := omega) only [go_sem]
              refine ⟨_, c_rational_Mul _ _ (by omega), ?_⟩
              refine hK38 _ ?_
              refine rgnX_take 9 (fun K39 hK39 => ?_)
              simp (disch := omega) only [go_sem]
              refine ⟨_, c_rational_Mul _ _ (by omega), ?_⟩
              refine hK39 _ ?_
              refine rgnX_take 1 (fun K40 hK40 => ?_)
              simp (disch := omega) only [go_sem]
              refine ⟨_, c_rational_Mul _ _ (by omega), ?_⟩
              refine hK40 _ ?_
              refine rgnX_take 1 (fun K41 hK41 => ?_)
              simp (disch := omega) only [go_sem]
              refine ⟨_, c_rational_Sub _ _ (by omega), ?_⟩
              refine hK41 _ ?_
              simp (disch := omega) only [go_sem]
              refine hK37 _ ?_
              clear hK41 K41 hK40 K40 hK39 K39 hK38 K38 hK37 K37
              refine pwx_sd Tryz.mixed 0 [] (by rfl) [] (by kernel_rfl) (by simp) (fun K42 hK42 => ?_)
              refine rgnX_take 6 (fun K43 hK43 => ?_)
              simp (disch := omega) only [go_sem]
              refine ⟨_, c_radical_add _ _ (by omega), ?_⟩
              refine hK43 _ ?_
              refine rgnX_take 3 (fun K44 hK44 => ?_)
              simp (disch := omega) only [go_sem]
              refine ⟨_, c_radical_plain _ _ _ (by omega), ?_⟩
              refine hK44 _ ?_
              simp (disch := omega) only [go_sem]
              refine hK42 _ ?_
              clear hK44 K44 hK43 K43 hK42 K42
              refine pwp_ret ?_
              refine ⟨Or.inr rfl, ?_⟩
              simp (disch := omega) only [go_sem]
              rw [quad_4 h0 hb1 h1 (by assumption) (by assumption)]
set_option maxHeartbeats 4000000 in
theorem c_radical_Cmp (a b c a' b' c' : Rat) {k l m k' l' m' : Nat} [SzR a k] [SzR b l] [SzR c m] [SzR a' k'] [SzR b' l'] [SzR c' m'] (hk : k + l + m + k' + l' + m' ≤ 2000) (hc : 0 ≤ c) (hc' : 0 ≤ c') :
    Ret Tryz.prog 59 [.a (ratC (a) ++ (ratC (b) ++ ratC (c))), .a (ratC (a') ++ (ratC (b') ++ ratC (c')))] (.e (.c (.int .i64 (cmpR a b c a' b' c')))) := by
  refine ret_of_body (md := {}) Tryz.func59 (by kernel_rfl) rfl ?_
  simp only [Tryz.f59, List.map_cons, List.map_nil, List.length_cons, List.length_nil, Nat.zero_add, Nat.reduceAdd, Nat.reduceSub, List.reduceReplicate, List.cons_append, List.nil_append]
  refine pwx_sr 2 [] (by rfl) (fun K1 hK1 => ?_)
  simp (disch := omega) only [go_sem]
  refine hK1 _ ?_
  clear hK1 K1
  refine pwp_seq ?_
  by_cases h0 : b = 0
  · refine pwx_sr 0 [some 7, some 8, some 9, some 10, some 11, some 12, some 13, some 14, some 15, some 16] (by rfl) (fun K2 hK2 => ?_)
    refine rgnX_take 3 (fun K3 hK3 => ?_)
    simp (disch := omega) only [go_sem]
    refine ⟨_, c_rational_Sign _, ?_⟩
    refine hK3 _ ?_
    refine rgnX_take 5 (fun K4 hK4 => ?_)
    simp (disch := omega) only [go_sem]
    first | refine ⟨_, c_rational_Sign _, ?_⟩ | skip
    refine hK4 _ ?_
    simp (disch := omega) only [go_sem]
    refine hK2 _ ?_
    clear hK4 K4 hK3 K3 hK2 K2
    refine pwp_cond (b := _) (by rfl) (fun hb0 => ?_) (fun hb0 => ?_)
    · first | replace hb0 := of_decide_eq_true hb0 | replace hb0 := of_decide_eq_false hb0 | skip
      refine pwx_sr 0 [] (by rfl) (fun K5 hK5 => ?_)
      refine rgnX_take 5 (fun K6 hK6 => ?_)
      simp (disch := omega) only [go_sem]
      refine ⟨_, c_rational_Cmp _ _ (by omega), ?_⟩
      refine hK6 _ ?_
      simp (disch := omega) only [go_sem]
      refine hK5 _ ?_
      clear hK6 K6 hK5 K5
      refine pwp_ret ?_
      refine r_then ?_
      refine ⟨Or.inr rfl, ?_⟩
      simp (disch := omega) only [go_sem]
      first | (subst h0; subst hb0; exact (cmpR_0 hc hc').symm) | (subst h0; subst hb0; exact cmpR_0 hc hc') | rfl | exact (cmpR_ap hc hc' (by assumption)).symm | (have e : c = c' := (by assumption); subst e; exact cmpR_same hc)
    · first | replace hb0 := of_decide_eq_true hb0 | replace hb0 := of_decide_eq_false hb0 | skip
      refine pwp_skip ?_
      refine n_then ?_
      refine pwp_seq ?_
      refine pwx_sr 0 [] (by rfl) (fun K7 hK7 => ?_)
      refine rgnX_take 3 (fun K8 hK8 => ?_)
      simp (disch := omega) only [go_sem]
      refine ⟨_, c_radical_apart _ _ _ _ _ _ (by omega), ?_⟩
      refine hK8 _ ?_
      simp (disch := omega) only [go_sem]
      refine hK7 _ ?_
      clear hK8 K8 hK7 K7
      refine pwx_sr 0 [] (by rfl) (fun K9 hK9 => ?_)
      simp (disch := omega) only [go_sem]
      refine hK9 _ ?_
      clear hK9 K9
      refine pwp_cond (b := _) (by rfl) (fun hb1 => ?_) (fun hb1 => ?_)
      · first | replace hb1 := of_decide_eq_true hb1 | replace hb1 := of_decide_eq_false hb1 | skip
        refine pwx_sr 0 [] (by rfl) (fun K10 hK10 => ?_)
        simp (disch := omega) only [go_sem]
        refine hK10 _ ?_
        clear hK10 K10
        refine pwp_ret ?_
        refine r_then ?_
        refine ⟨Or.inr rfl, ?_⟩
        simp (disch := omega) only [go_sem]
        first | (subst h0; subst hb0; exact (cmpR_0 hc hc').symm) | (subst h0; subst hb0; exact cmpR_0 hc hc') | rfl | exact (cmpR_ap hc hc' (by assumption)).symm | (have e : c = c' := (by assumption); subst e; exact cmpR_same hc)
      · first | replace hb1 := of_decide_eq_true hb1 | replace hb1 := of_decide_eq_false hb1 | skip
        refine pwp_skip ?_
        refine n_then ?_
        refine pwp_seq ?_
        refine pwx_sr 0 [] (by rfl) (fun K11 hK11 => ?_)
        refine rgnX_take 5 (fun K12 hK12 => ?_)
        simp (disch := omega) only [go_sem]
        refine ⟨_, c_rational_Cmp _ _ (by omega), ?_⟩
        refine hK12 _ ?_
        simp (disch := omega) only [go_sem]
        refine hK11 _ ?_
        clear hK12 K12 hK11 K11
        refine pwp_cond (b := _) (by rfl) (fun hb2 => ?_) (fun hb2 => ?_)
        · first | replace hb2 := of_decide_eq_true hb2 | replace hb2 := of_decide_eq_false hb2 | skip
          refine pwx_sd Tryz.mixed 0 [] (by rfl) [] (by kernel_rfl) (by simp) (fun K13 hK13 => ?_)
          refine rgnX_take 5 (fun K14 hK14 => ?_)
          simp (disch := omega) only [go_sem]
          refine ⟨_, c_rational_Sub _ _ (by omega), ?_⟩
          refine hK14 _ ?_
          refine rgnX_take 5 (fun K15 hK15 => ?_)
          simp (disch := omega) only [go_sem]
          refine ⟨_, c_rational_Sub _ _ (by omega), ?_⟩
          refine hK15 _ ?_
          refine rgnX_take 3 (fun K16 hK16 => ?_)
          simp (disch := omega) only [go_sem]
          refine ⟨_, c_radical_plain _ _ _ (by omega), ?_⟩
          refine hK16 _ ?_
          simp (disch := omega) only [go_sem]
          refine hK13 _ ?_
          clear hK16 K16 hK15 K15 hK14 K14 hK13 K13
          refine pwp_ret ?_
          refine r_then ?_
          refine ⟨Or.inr rfl, ?_⟩
          simp (disch := omega) only [go_sem]
          first | (subst h0; subst hb0; exact (cmpR_0 hc hc').symm) | (subst h0; subst hb0; exact cmpR_0 hc hc') | rfl | exact (cmpR_ap hc hc' (by assumption)).symm | (have e : c = c' := (by assumption); subst e; exact cmpR_same hc)
        · first | replace hb2 := of_decide_eq_true hb2 | replace hb2 := of_decide_eq_false hb2 | skip
          refine pwp_skip ?_
          refine n_then ?_
          refine pwx_sr 0 [] (by rfl) (fun K17 hK17 => ?_)
          refine rgnX_take 3 (fun K18 hK18 => ?_)
          simp (disch := omega) only [go_sem]
          refine ⟨_, c_radical_Sub _ _ _ _ _ _ (by omega), ?_⟩
          refine hK18 _ ?_
          refine rgnX_take 1 (fun K19 hK19 => ?_)
          simp (disch := omega) only [go_sem]
          refine ⟨_, c_radical_Sign _ _ _ _ _ _ (by omega), ?_⟩
          refine hK19 _ ?_
          simp (disch := omega) only [go_sem]
          refine hK17 _ ?_
          clear hK19 K19 hK18 K18 hK17 K17
          refine pwp_ret ?_
          refine ⟨Or.inr rfl, ?_⟩
          simp (disch := omega) only [go_sem]
          first | (subst h0; subst hb0; exact (cmpR_0 hc hc').symm) | (subst h0; subst hb0; exact cmpR_0 hc hc') | rfl | exact (cmpR_ap hc hc' (by assumption)).symm | (have e : c = c' := (by assumption); subst e; exact cmpR_same hc)
  · refine pwx_sr 0 [some 7, some 8, some 9, some 10, some 11, some 12, some 13, some 14, some 15, some 16] (by rfl) (fun K20 hK20 => ?_)
    refine rgnX_take 3 (fun K21 hK21 => ?_)
    simp (disch := omega) only [go_sem]
    refine ⟨_, c_rational_Sign _, ?_⟩
    refine hK21 _ ?_
    refine rgnX_take 5 (fun K22 hK22 => ?_)
    simp (disch := omega) only [go_sem]
    first | refine ⟨_, c_rational_Sign _, ?_⟩ | skip
    refine hK22 _ ?_
    simp (disch := omega) only [go_sem]
    refine hK20 _ ?_
    clear hK22 K22 hK21 K21 hK20 K20
    refine pwp_cond (b := false) (by rfl) (fun h => nomatch h) (fun _ => ?_)
    refine pwp_skip ?_
    refine n_then ?_
    refine pwp_seq ?_
    refine pwx_sr 0 [] (by rfl) (fun K23 hK23 => ?_)
    refine rgnX_take 3 (fun K24 hK24 => ?_)
    simp (disch := omega) only [go_sem]
    refine ⟨_, c_radical_apart _ _ _ _ _ _ (by omega), ?_⟩
    refine hK24 _ ?_
    simp (disch := omega) only [go_sem]
    refine hK23 _ ?_
    clear hK24 K24 hK23 K23
    refine pwx_sr 0 [] (by rfl) (fun K25 hK25 => ?_)
    simp (disch := omega) only [go_sem]
    refine hK25 _ ?_
    clear hK25 K25
    refine pwp_cond (b := _) (by rfl) (fun hb4 => ?_) (fun hb4 => ?_)
    · first | replace hb4 := of_decide_eq_true hb4 | replace hb4 := of_decide_eq_false hb4 | skip
      refine pwx_sr 0 [] (by rfl) (fun K26 hK26 => ?_)
      simp (disch := omega) only [go_sem]
      refine hK26 _ ?_
      clear hK26 K26
      refine pwp_ret ?_
      refine r_then ?_
      refine ⟨Or.inr rfl, ?_⟩
      simp (disch := omega) only [go_sem]
      first | (subst h0; subst hb0; exact (cmpR_0 hc hc').symm) | (subst h0; subst hb0; exact cmpR_0 hc hc') | rfl | exact (cmpR_ap hc hc' (by assumption)).symm | (have e : c = c' := (by assumption); subst e; exact cmpR_same hc)
    · first | replace hb4 := of_decide_eq_true hb4 | replace hb4 := of_decide_eq_false hb4 | skip
      refine pwp_skip ?_
      refine n_then ?_
      refine pwp_seq ?_
      refine pwx_sr 0 [] (by rfl) (fun K27 hK27 => ?_)
      refine rgnX_take 5 (fun K28 hK28 => ?_)
      simp (disch := omega) only [go_sem]
      refine ⟨_, c_rational_Cmp _ _ (by omega), ?_⟩
      refine hK28 _ ?_
      simp (disch := omega) only [go_sem]
      refine hK27 _ ?_
      clear hK28 K28 hK27 K27
      refine pwp_cond (b := _) (by rfl) (fun hb5 => ?_) (fun hb5 => ?_)
      · first | replace hb5 := of_decide_eq_true hb5 | replace hb5 := of_decide_eq_false hb5 | skip
        refine pwx_sd Tryz.mixed 0 [] (by rfl) [] (by kernel_rfl) (by simp) (fun K29 hK29 => ?_)
        refine rgnX_take 5 (fun K30 hK30 => ?_)
        simp (disch := omega) only [go_sem]
        refine ⟨_, c_rational_Sub _ _ (by omega), ?_⟩
        refine hK30 _ ?_
        refine rgnX_take 5 (fun K31 hK31 => ?_)
        simp (disch := omega) only [go_sem]
        refine ⟨_, c_rational_Sub _ _ (by omega), ?_⟩
        refine hK31 _ ?_
        refine rgnX_take 3 (fun K32 hK32 => ?_)
        simp (disch := omega) only [go_sem]
        refine ⟨_, c_radical_plain _ _ _ (by omega), ?_⟩
        refine hK32 _ ?_
        simp (disch := omega) only [go_sem]
        refine hK29 _ ?_
        clear hK32 K32 hK31 K31 hK30 K30 hK29 K29
        refine pwp_ret ?_
        refine r_then ?_
        refine ⟨Or.inr rfl, ?_⟩
        simp (disch := omega) only [go_sem]
        first | (subst h0; subst hb0; exact (cmpR_0 hc hc').symm) | (subst h0; subst hb0; exact cmpR_0 hc hc') | rfl | exact (cmpR_ap hc hc' (by assumption)).symm | (have e : c = c' := (by assumption); subst e; exact cmpR_same hc)
      · first | replace hb5 := of_decide_eq_true hb5 | replace hb5 := of_decide_eq_false hb5 | skip
        refine pwp_skip ?_
        refine n_then ?_
        refine pwx_sr 0 [] (by rfl) (fun K33 hK33 => ?_)
        refine rgnX_take 3 (fun K34 hK34 => ?_)
        simp (disch := omega) only [go_sem]
        refine ⟨_, c_radical_Sub _ _ _ _ _ _ (by omega), ?_⟩
        refine hK34 _ ?_
        refine rgnX_take 1 (fun K35 hK35 => ?_)
        simp (disch := omega) only [go_sem]
        refine ⟨_, c_radical_Sign _ _ _ _ _ _ (by omega), ?_⟩
        refine hK35 _ ?_
        simp (disch := omega) only [go_sem]
        refine hK33 _ ?_
        clear hK35 K35 hK34 K34 hK33 K33
        refine pwp_ret ?_
        refine ⟨Or.inr rfl, ?_⟩
        simp (disch := omega) only [go_sem]
        first | (subst h0; subst hb0; exact (cmpR_0 hc hc').symm) | (subst h0; subst hb0; exact cmpR_0 hc hc') | rfl | exact (cmpR_ap hc hc' (by assumption)).symm | (have e : c = c' := (by assumption); subst e; exact cmpR_same hc)

end Go.Proofs.YtbadkjfjdkbgfaaGreat

set_option linter.unusedSimpArgs false
set_option linter.unusedVariables false
set_option maxRecDepth 20000
namespace Go.Proofs.YtbadkjfjdkbgfaaGreat
open Go Go.PL Go.RL
set_option maxHeartbeats 4000000 in
theorem c_swarfref05_two (a b m : Rat) {k l o : Nat} [SzR a k] [SzR b l] [SzR m o] (hk : k + l + o ≤ 40000) :
    Ret Tryz.prog 139 [.a (ratC a), .a (ratC b), .a (ratC m)] (.e (.c (.int .i64 (two a b m)))) := by
  refine ret_of_body (md := {}) Tryz.func139 (by kernel_rfl) rfl ?_
  simp only [Tryz.f139, List.map_cons, List.map_nil, List.length_cons, List.length_nil, Nat.zero_add, Nat.reduceAdd, Nat.reduceSub, List.reduceReplicate, List.cons_append, List.nil_append]
  have h1 := mul_bd (sgnQ_bd b) (sgnQ_bd m)
  have h2 := mul_bd (sgnQ_bd a) (cmpQ_bd (a * a) (b * b * m))
  refine pwx_sr 3 [] (by rfl) (fun K1 hK1 => ?_)
  simp (disch := omega) only [go_sem]
  refine hK1 _ ?_
  clear hK1 K1
  refine pwx_sd Tryz.mixed 0 [] (by rfl) [] (by kernel_rfl) (by simp) (fun K2 hK2 => ?_)
  refine rgnX_take 2 (fun K3 hK3 => ?_)
  simp (disch := omega) only [go_sem]
  refine ⟨_, c_swarfref02_Sign _, ?_⟩
  refine hK3 _ ?_
  refine rgnX_take 2 (fun K4 hK4 => ?_)
  simp (disch := omega) only [go_sem]
  refine ⟨_, c_swarfref02_Sign _, ?_⟩
  refine hK4 _ ?_
  refine rgnX_take 2 (fun K5 hK5 => ?_)
  simp (disch := omega) only [go_sem]
  refine ⟨_, c_swarfref02_Sign _, ?_⟩
  refine hK5 _ ?_
  simp (disch := omega) only [go_sem]
  refine hK2 _ ?_
  clear hK5 K5 hK4 K4 hK3 K3 hK2 K2
  refine pwp_seq ?_
  rcases Classical.em (a = 0) with ha | ha <;> rcases Classical.em (sgnQ b * sgnQ m = 0) with hb | hb
  · refine pwx_sr 0 [some 16, some 17, some 18, some 19, some 20, some 21, some 22, some 23, some 24, some 25, some 26] (by rfl) (fun K6 hK6 => ?_)
    simp (disch := omega) only [go_sem, ha, hb, decide_true]
    refine hK6 _ ?_
    clear hK6 K6
    refine pwp_cond (b := true) (by rfl) (fun _ => ?_) (fun h => nomatch h)
    refine pwp_seq ?_
    refine pwx_sr 0 [] (by rfl) (fun K7 hK7 => ?_)
    simp (disch := omega) only [go_sem]
    refine hK7 _ ?_
    clear hK7 K7
    refine pwp_cond (b := _) (by rfl) (fun hb1 => ?_) (fun hb1 => ?_)
    · first
      | (exfalso; simp at hb1; done)
      | (refine pwx_sr 0 [] (by rfl) (fun K8 hK8 => ?_)
         simp (disch := omega) only [go_sem]
         refine hK8 _ ?_
         clear hK8 K8
         refine pwp_ret ?_
         refine r_then ?_
         refine r_then ?_
         refine ⟨Or.inr rfl, ?_⟩
         simp (disch := omega) only [go_sem]
         first | exact two_r1 (by rw [sgnQ_eqz]; exact ha) | exact (two_r1 (by rw [sgnQ_eqz]; exact ha)).trans hb | exact two_1 hb | exact two_2 (by assumption) | exact two_4 hb (by assumption) (by rw [sgnQ_eqz]; exact ha) | (rw [two_2 (by assumption)]; first | rfl | assumption))
    · first
      | (exfalso; simp at hb1; done)
      | (refine pwp_skip ?_
         refine n_then ?_
         refine pwx_sr 0 [] (by rfl) (fun K9 hK9 => ?_)
         simp (disch := omega) only [go_sem]
         refine hK9 _ ?_
         clear hK9 K9
         refine pwp_ret ?_
         refine r_then ?_
         refine ⟨Or.inr rfl, ?_⟩
         simp (disch := omega) only [go_sem]
         first | exact two_r1 (by rw [sgnQ_eqz]; exact ha) | exact (two_r1 (by rw [sgnQ_eqz]; exact ha)).trans hb | exact two_1 hb | exact two_2 (by assumption) | exact two_4 hb (by assumption) (by rw [sgnQ_eqz]; exact ha) | (rw [two_2 (by assumption)]; first | rfl | assumption))
  · refine pwx_sr 0 [some 16, some 17, some 18, some 19, some 20, some 21, some 22, some 23, some 24, some 25, some 26] (by rfl) (fun K10 hK10 => ?_)
    simp (disch := omega) only [go_sem, ha, hb, decide_true]
    refine hK10 _ ?_
    clear hK10 K10
    refine pwp_cond (b := true) (by rfl) (fun _ => ?_) (fun h => nomatch h)
    refine pwp_seq ?_
    refine pwx_sr 0 [] (by rfl) (fun K11 hK11 => ?_)
    simp (disch := omega) only [go_sem]
    refine hK11 _ ?_
    clear hK11 K11
    refine pwp_cond (b := _) (by rfl) (fun hb3 => ?_) (fun hb3 => ?_)
    · first
      | (exfalso; simp at hb3; done)
      | (refine pwx_sr 0 [] (by rfl) (fun K12 hK12 => ?_)
         simp (disch := omega) only [go_sem]
         refine hK12 _ ?_
         clear hK12 K12
         refine pwp_ret ?_
         refine r_then ?_
         refine r_then ?_
         refine ⟨Or.inr rfl, ?_⟩
         simp (disch := omega) only [go_sem]
         first | exact two_r1 (by rw [sgnQ_eqz]; exact ha) | exact (two_r1 (by rw [sgnQ_eqz]; exact ha)).trans hb | exact two_1 hb | exact two_2 (by assumption) | exact two_4 hb (by assumption) (by rw [sgnQ_eqz]; exact ha) | (rw [two_2 (by assumption)]; first | rfl | assumption))
    · first
      | (exfalso; simp at hb3; done)
      | (refine pwp_skip ?_
         refine n_then ?_
         refine pwx_sr 0 [] (by rfl) (fun K13 hK13 => ?_)
         simp (disch := omega) only [go_sem]
         refine hK13 _ ?_
         clear hK13 K13
         refine pwp_ret ?_
         refine r_then ?_
         refine ⟨Or.inr rfl, ?_⟩
         simp (disch := omega) only [go_sem]
         first | exact two_r1 (by rw [sgnQ_eqz]; exact ha) | exact (two_r1 (by rw [sgnQ_eqz]; exact ha)).trans hb | exact two_1 hb | exact two_2 (by assumption) | exact two_4 hb (by assumption) (by rw [sgnQ_eqz]; exact ha) | (rw [two_2 (by assumption)]; first | rfl | assumption))
  · refine pwx_sr 0 [some 16, some 17, some 18, some 19, some 20, some 21, some 22, some 23, some 24, some 25, some 26] (by rfl) (fun K14 hK14 => ?_)
    simp (disch := omega) only [go_sem, ha, hb, decide_true]
    refine hK14 _ ?_
    clear hK14 K14
    refine pwp_cond (b := true) (by rfl) (fun _ => ?_) (fun h => nomatch h)
    refine pwp_seq ?_
    refine pwx_sr 0 [] (by rfl) (fun K15 hK15 => ?_)
    simp (disch := omega) only [go_sem]
    refine hK15 _ ?_
    clear hK15 K15
    refine pwp_cond (b := _) (by rfl) (fun hb5 => ?_) (fun hb5 => ?_)
    · first
      | (exfalso; simp at hb5; done)
      | (refine pwx_sr 0 [] (by rfl) (fun K16 hK16 => ?_)
         simp (disch := omega) only [go_sem]
         refine hK16 _ ?_
         clear hK16 K16
         refine pwp_ret ?_
         refine r_then ?_
         refine r_then ?_
         refine ⟨Or.inr rfl, ?_⟩
         simp (disch := omega) only [go_sem]
         first | exact two_r1 (by rw [sgnQ_eqz]; exact ha) | exact (two_r1 (by rw [sgnQ_eqz]; exact ha)).trans hb | exact two_1 hb | exact two_2 (by assumption) | exact two_4 hb (by assumption) (by rw [sgnQ_eqz]; exact ha) | (rw [two_2 (by assumption)]; first | rfl | assumption))
    · first
      | (exfalso; simp at hb5; done)
      | (refine pwp_skip ?_
         refine n_then ?_
         refine pwx_sr 0 [] (by rfl) (fun K17 hK17 => ?_)
         simp (disch := omega) only [go_sem]
         refine hK17 _ ?_
         clear hK17 K17
         refine pwp_ret ?_
         refine r_then ?_
         refine ⟨Or.inr rfl, ?_⟩
         simp (disch := omega) only [go_sem]
         first | exact two_r1 (by rw [sgnQ_eqz]; exact ha) | exact (two_r1 (by rw [sgnQ_eqz]; exact ha)).trans hb | exact two_1 hb | exact two_2 (by assumption) | exact two_4 hb (by assumption) (by rw [sgnQ_eqz]; exact ha) | (rw [two_2 (by assumption)]; first | rfl | assumption))
  · refine pwx_sr 0 [some 16, some 17, some 18, some 19, some 20, some 21, some 22, some 23, some 24, some 25, some 26] (by rfl) (fun K18 hK18 => ?_)
    simp (disch := omega) only [go_sem, ha, hb, decide_true]
    refine hK18 _ ?_
    clear hK18 K18
    refine pwp_cond (b := _) (by rfl) (fun hb6 => ?_) (fun hb6 => ?_)
    · first | replace hb6 := of_decide_eq_true hb6 | replace hb6 := of_decide_eq_false hb6 | skip
      refine pwp_seq ?_
      refine pwx_sr 0 [] (by rfl) (fun K19 hK19 => ?_)
      simp (disch := omega) only [go_sem]
      refine hK19 _ ?_
      clear hK19 K19
      refine pwp_cond (b := _) (by rfl) (fun hb7 => ?_) (fun hb7 => ?_)
      · first
        | (exfalso; simp at hb7; done)
        | (refine pwx_sr 0 [] (by rfl) (fun K20 hK20 => ?_)
           simp (disch := omega) only [go_sem]
           refine hK20 _ ?_
           clear hK20 K20
           refine pwp_ret ?_
           refine r_then ?_
           refine r_then ?_
           refine ⟨Or.inr rfl, ?_⟩
           simp (disch := omega) only [go_sem]
           first | exact two_r1 (by rw [sgnQ_eqz]; exact ha) | exact (two_r1 (by rw [sgnQ_eqz]; exact ha)).trans hb | exact two_1 hb | exact two_2 (by assumption) | exact two_4 hb (by assumption) (by rw [sgnQ_eqz]; exact ha) | (rw [two_2 (by assumption)]; first | rfl | assumption))
      · first
        | (exfalso; simp at hb7; done)
        | (refine pwp_skip ?_
           refine n_then ?_
           refine pwx_sr 0 [] (by rfl) (fun K21 hK21 => ?_)
           simp (disch := omega) only [go_sem]
           refine hK21 _ ?_
           clear hK21 K21
           refine pwp_ret ?_
           refine r_then ?_
           refine ⟨Or.inr rfl, ?_⟩
           simp (disch := omega) only [go_sem]
           first | exact two_r1 (by rw [sgnQ_eqz]; exact ha) | exact (two_r1 (by rw [sgnQ_eqz]; exact ha)).trans hb | exact two_1 hb | exact two_2 (by assumption) | exact two_4 hb (by assumption) (by rw [sgnQ_eqz]; exact ha) | (rw [two_2 (by assumption)]; first | rfl | assumption))
    · first | replace hb6 := of_decide_eq_true hb6 | replace hb6 := of_decide_eq_false hb6 | skip
      refine pwp_skip ?_
      refine n_then ?_
      refine pwx_sd Tryz.mixed 0 [] (by rfl) [] (by kernel_rfl) (by simp) (fun K22 hK22 => ?_)
      refine rgnX_take 4 (fun K23 hK23 => ?_)
      simp (disch := omega) only [go_sem]
      refine ⟨_, c_swarfref02_Mul _ _ (by omega), ?_⟩
      refine hK23 _ ?_
      refine rgnX_take 3 (fun K24 hK24 => ?_)
      simp (disch := omega) only [go_sem]
      refine ⟨_, c_swarfref02_Mul _ _ (by omega), ?_⟩
      refine hK24 _ ?_
      refine rgnX_take 2 (fun K25 hK25 => ?_)
      simp (disch := omega) only [go_sem]
      refine ⟨_, c_swarfref02_Mul _ _ (by omega), ?_⟩
      refine hK25 _ ?_
      refine rgnX_take 1 (fun K26 hK26 => ?_)
      simp (disch := omega) only [go_sem]
      refine ⟨_, c_swarfref02_Cmp _ _ (by omega), ?_⟩
      refine hK26 _ ?_
      simp (disch := omega) only [go_sem]
      refine hK22 _ ?_
      clear hK26 K26 hK25 K25 hK24 K24 hK23 K23 hK22 K22
      refine pwp_ret ?_
      refine ⟨Or.inr rfl, ?_⟩
      simp (disch := omega) only [go_sem]
      first | exact two_r1 (by rw [sgnQ_eqz]; exact ha) | exact (two_r1 (by rw [sgnQ_eqz]; exact ha)).trans hb | exact two_1 hb | exact two_2 (by assumption) | exact two_4 hb (by assumption) (by rw [sgnQ_eqz]; exact ha) | (rw [two_2 (by assumption)]; first | rfl | assumption)
set_option maxHeartbeats 4000000 in
theorem c_swarfref05_Sign (A B C D M N : Rat) {kA kB kC kD kM kN : Nat} [SzR A kA] [SzR B kB] [SzR C kC] [SzR D kD] [SzR M kM] [SzR N kN] (hk : kA + kB + kC + kD + kM + kN ≤ 5000) :
    Ret Tryz.prog 97 [.a (ratC A ++ (ratC B ++ (ratC C ++ (ratC D ++ (ratC M ++ ratC N)))))] (.e (.c (.int .i64 (quad A B C D M N)))) := by
  refine ret_of_body (md := {}) Tryz.func97 (by kernel_rfl) rfl ?_
  simp only [Tryz.f97, List.map_cons, List.map_nil, List.length_cons, List.length_nil, Nat.zero_add, Nat.reduceAdd, Nat.reduceSub, List.reduceReplicate, List.cons_append, List.nil_append]
  have b1 := two_bd A B M
  have b2 := two_bd C D M
  have b3 := mul_bd b2 (sgnQ_bd N)
  have b4 := mul_bd b1 (two_bd (A * A + B * B * M - N * (C * C + D * D * M)) ((A * B - N * (C * D)) + (A * B - N * (C * D))) M)
  refine pwx_sr 1 [] (by rfl) (fun K1 hK1 => ?_)
  simp (disch := omega) only [go_sem]
  refine hK1 _ ?_
  clear hK1 K1
  refine pwp_seq ?_
  by_cases h0 : M < 0
  · refine pwx_sr 0 [some 8, some 9, some 10, some 11, some 12, some 13, some 14, some 15, some 16, some 17] (by rfl) (fun K2 hK2 => ?_)
    refine rgnX_take 3 (fun K3 hK3 => ?_)
    simp (disch := omega) only [go_sem]
    refine ⟨_, c_swarfref02_Sign _, ?_⟩
    refine hK3 _ ?_
    refine rgnX_take 5 (fun K4 hK4 => ?_)
    simp (disch := omega) only [go_sem]
    first | refine ⟨_, c_swarfref02_Sign _, ?_⟩ | skip
    refine hK4 _ ?_
    simp (disch := omega) only [go_sem]
    refine hK2 _ ?_
    clear hK4 K4 hK3 K3 hK2 K2
    refine pwp_cond (b := true) (by rfl) (fun _ => ?_) (fun h => nomatch h)
    refine pwx_sr 0 [] (by rfl) (fun K5 hK5 => ?_)
    simp (disch := omega) only [go_sem]
    refine hK5 _ ?_
    clear hK5 K5
    refine pwp_ret ?_
    refine r_then ?_
    refine ⟨Or.inr rfl, ?_⟩
    simp (disch := omega) only [go_sem]
    exact quad_0 (.inl h0)
  · refine pwx_sr 0 [some 8, some 9, some 10, some 11, some 12, some 13, some 14, some 15, some 16, some 17] (by rfl) (fun K6 hK6 => ?_)
    refine rgnX_take 3 (fun K7 hK7 => ?_)
    simp (disch := omega) only [go_sem]
    refine ⟨_, c_swarfref02_Sign _, ?_⟩
    refine hK7 _ ?_
    refine rgnX_take 5 (fun K8 hK8 => ?_)
    simp (disch := omega) only [go_sem]
    first | refine ⟨_, c_swarfref02_Sign _, ?_⟩ | skip
    refine hK8 _ ?_
    simp (disch := omega) only [go_sem]
    refine hK6 _ ?_
    clear hK8 K8 hK7 K7 hK6 K6
    refine pwp_cond (b := _) (by rfl) (fun hb1 => ?_) (fun hb1 => ?_)
    · first | replace hb1 := of_decide_eq_true hb1 | replace hb1 := of_decide_eq_false hb1 | skip
      refine pwx_sr 0 [] (by rfl) (fun K9 hK9 => ?_)
      simp (disch := omega) only [go_sem]
      refine hK9 _ ?_
      clear hK9 K9
      refine pwp_ret ?_
      refine r_then ?_
      refine ⟨Or.inr rfl, ?_⟩
      simp (disch := omega) only [go_sem]
      exact quad_0 (.inr hb1)
    · first | replace hb1 := of_decide_eq_true hb1 | replace hb1 := of_decide_eq_false hb1 | skip
      refine pwp_skip ?_
      refine n_then ?_
      refine pwx_sd Tryz.mixed 0 [] (by rfl) [] (by kernel_rfl) (by simp) (fun K10 hK10 => ?_)
      refine rgnX_take 7 (fun K11 hK11 => ?_)
      simp (disch := omega) only [go_sem]
      refine ⟨_, c_swarfref05_two _ _ _ (by omega), ?_⟩
      refine hK11 _ ?_
      refine rgnX_take 7 (fun K12 hK12 => ?_)
      simp (disch := omega) only [go_sem]
      refine ⟨_, c_swarfref05_two _ _ _ (by omega), ?_⟩
      refine hK12 _ ?_
      refine rgnX_take 3 (fun K13 hK13 => ?_)
      simp (disch := omega) only [go_sem]
      refine ⟨_, c_swarfref02_Sign _, ?_⟩
      refine hK13 _ ?_
      simp (disch := omega) only [go_sem]
      refine hK10 _ ?_
      clear hK13 K13 hK12 K12 hK11 K11 hK10 K10
      refine pwp_seq ?_
      rcases Classical.em (two A B M = 0) with ha | ha <;> rcases Classical.em (two C D M * sgnQ N = 0) with hb | hb
      · refine pwx_sr 0 [some 36, some 37, some 38, some 39, some 40, some 41, some 42, some 43, some 44, some 45, some 46] (by rfl) (fun K14 hK14 => ?_)
        simp (disch := omega) only [go_sem, ha, hb, decide_true]
        refine hK14 _ ?_
        clear hK14 K14
        refine pwp_cond (b := true) (by rfl) (fun _ => ?_) (fun h => nomatch h)
        refine pwp_seq ?_
        refine pwx_sr 0 [] (by rfl) (fun K15 hK15 => ?_)
        simp (disch := omega) only [go_sem, ha, decide_true]
        refine hK15 _ ?_
        clear hK15 K15
        refine pwp_cond (b := true) (by rfl) (fun _ => ?_) (fun h => nomatch h)
        refine pwx_sr 0 [] (by rfl) (fun K16 hK16 => ?_)
        simp (disch := omega) only [go_sem]
        refine hK16 _ ?_
        clear hK16 K16
        refine pwp_ret ?_
        refine r_then ?_
        refine r_then ?_
        refine ⟨Or.inr rfl, ?_⟩
        simp (disch := omega) only [go_sem]
        exact (quad_3 h0 hb1 ha).trans hb
      · refine pwx_sr 0 [some 36, some 37, some 38, some 39, some 40, some 41, some 42, some 43, some 44, some 45, some 46] (by rfl) (fun K17 hK17 => ?_)
        simp (disch := omega) only [go_sem, ha, hb, decide_true]
        refine hK17 _ ?_
        clear hK17 K17
        refine pwp_cond (b := true) (by rfl) (fun _ => ?_) (fun h => nomatch h)
        refine pwp_seq ?_
        refine pwx_sr 0 [] (by rfl) (fun K18 hK18 => ?_)
        simp (disch := omega) only [go_sem, ha, decide_true]
        refine hK18 _ ?_
        clear hK18 K18
        refine pwp_cond (b := true) (by rfl) (fun _ => ?_) (fun h => nomatch h)
        refine pwx_sr 0 [] (by rfl) (fun K19 hK19 => ?_)
        simp (disch := omega) only [go_sem]
        refine hK19 _ ?_
        clear hK19 K19
        refine pwp_ret ?_
        refine r_then ?_
        refine r_then ?_
        refine ⟨Or.inr rfl, ?_⟩
        simp (disch := omega) only [go_sem]
        exact quad_3 h0 hb1 ha
      · refine pwx_sr 0 [some 36, some 37, some 38, some 39, some 40, some 41, some 42, some 43, some 44, some 45, some 46] (by rfl) (fun K20 hK20 => ?_)
        simp (disch := omega) only [go_sem, ha, hb, decide_true]
        refine hK20 _ ?_
        clear hK20 K20
        refine pwp_cond (b := true) (by rfl) (fun _ => ?_) (fun h => nomatch h)
        refine pwp_seq ?_
        refine pwx_sr 0 [] (by rfl) (fun K21 hK21 => ?_)
        simp (disch := omega) only [go_sem, ha, decide_true]
        refine hK21 _ ?_
        clear hK21 K21
        refine pwp_cond (b := false) (by rfl) (fun h => nomatch h) (fun _ => ?_)
        refine pwp_skip ?_
        refine n_then ?_
        refine pwx_sr 0 [] (by rfl) (fun K22 hK22 => ?_)
        simp (disch := omega) only [go_sem]
        refine hK22 _ ?_
        clear hK22 K22
        refine pwp_ret ?_
        refine r_then ?_
        refine ⟨Or.inr rfl, ?_⟩
        simp (disch := omega) only [go_sem]
        exact quad_1 h0 hb1 hb
      · refine pwx_sr 0 [some 36, some 37, some 38, some 39, some 40, some 41, some 42, some 43, some 44, some 45, some 46] (by rfl) (fun K23 hK23 => ?_)
        simp (disch := omega) only [go_sem, ha, hb, decide_true]
        refine hK23 _ ?_
        clear hK23 K23
        refine pwp_cond (b := _) (by rfl) (fun hb8 => ?_) (fun hb8 => ?_)
        · first | replace hb8 := of_decide_eq_true hb8 | replace hb8 := of_decide_eq_false hb8 | skip
          refine pwp_seq ?_
          refine pwx_sr 0 [] (by rfl) (fun K24 hK24 => ?_)
          simp (disch := omega) only [go_sem, ha, decide_true]
          refine hK24 _ ?_
          clear hK24 K24
          refine pwp_cond (b := false) (by rfl) (fun h => nomatch h) (fun _ => ?_)
          refine pwp_skip ?_
          refine n_then ?_
          refine pwx_sr 0 [] (by rfl) (fun K25 hK25 => ?_)
          simp (disch := omega) only [go_sem]
          refine hK25 _ ?_
          clear hK25 K25
          refine pwp_ret ?_
          refine r_then ?_
          refine ⟨Or.inr rfl, ?_⟩
          simp (disch := omega) only [go_sem]
          first | exact quad_2 h0 hb1 (by assumption) | exact quad_r4 h0 hb1 hb (by assumption) ha
        · first | replace hb8 := of_decide_eq_true hb8 | replace hb8 := of_decide_eq_false hb8 | skip
          refine pwp_skip ?_
          refine n_then ?_
          refine pwx_sd Tryz.mixed 1 [] (by rfl) [] (by kernel_rfl) (by simp) (fun K26 hK26 => ?_)
          refine rgnX_take 7 (fun K27 hK27 => ?_)
          simp (disch := omega) only [go_sem]
          refine ⟨_, c_swarfref02_Mul _ _ (by omega), ?_⟩
          refine hK27 _ ?_
          refine rgnX_take 5 (fun K28 hK28 => ?_)
          simp (disch := omega) only [go_sem]
          refine ⟨_, c_swarfref02_Mul _ _ (by omega), ?_⟩
          refine hK28 _ ?_
          refine rgnX_take 3 (fun K29 hK29 => ?_)
          simp (disch := omega) only [go_sem]
          refine ⟨_, c_swarfref02_Mul _ _ (by omega), ?_⟩
          refine hK29 _ ?_
          refine rgnX_take 1 (fun K30 hK30 => ?_)
          simp (disch := omega) only [go_sem]
          refine ⟨_, c_swarfref02_Add _ _ (by omega), ?_⟩
          refine hK30 _ ?_
          refine rgnX_take 1 (fun K31 hK31 => ?_)
          simp (disch := omega) only [go_sem]
          refine ⟨_, c_swarfref02_Mul _ _ (by omega), ?_⟩
          refine hK31 _ ?_
          simp (disch := omega) only [go_sem]
          refine hK26 _ ?_
          clear hK31 K31 hK30 K30 hK29 K29 hK28 K28 hK27 K27 hK26 K26
          refine pwx_sd Tryz.mixed 1 [] (by rfl) [] (by kernel_rfl) (by simp) (fun K32 hK32 => ?_)
          refine rgnX_take 5 (fun K33 hK33 => ?_)
          simp (disch := omega) only [go_sem]
          refine ⟨_, c_swarfref02_Mul _ _ (by omega), ?_⟩
          refine hK33 _ ?_
          refine rgnX_take 5 (fun K34 hK34 => ?_)
          simp (disch := omega) only [go_sem]
          refine ⟨_, c_swarfref02_Mul _ _ (by omega), ?_⟩
          refine hK34 _ ?_
          refine rgnX_take 3 (fun K35 hK35 => ?_)
          simp (disch := omega) only [go_sem]
          refine ⟨_, c_swarfref02_Mul _ _ (by omega), ?_⟩
          refine hK35 _ ?_
          refine rgnX_take 1 (fun K36 hK36 => ?_)
          simp (disch := omega) only [go_sem]
          refine ⟨_, c_swarfref02_Add _ _ (by omega), ?_⟩
          refine hK36 _ ?_
          refine rgnX_take 2 (fun K37 hK37 => ?_)
          simp (disch := omega) only [go_sem]
          refine ⟨_, c_swarfref02_Sub _ _ (by omega), ?_⟩
          refine hK37 _ ?_
          simp (disch := omega) only [go_sem]
          refine hK32 _ ?_
          clear hK37 K37 hK36 K36 hK35 K35 hK34 K34 hK33 K33 hK32 K32
          refine pwx_sd Tryz.mixed 1 [] (by rfl) [] (by kernel_rfl) (by simp) (fun K38 hK38 => ?_)
          refine rgnX_take 5 (fun K39 hK39 => ?_)
          simp (disch := omega) only [go_sem]
          refine ⟨_, c_swarfref02_Mul _ _ (by omega), ?_⟩
          refine hK39 _ ?_
          refine rgnX_take 7 (fun K40 hK40 => ?_)
          simp (disch := omega) only [go_sem]
          refine ⟨_, c_swarfref02_Mul _ _ (by omega), ?_⟩
          refine hK40 _ ?_
          refine rgnX_take 1 (fun K41 hK41 => ?_)
          simp (disch := omega) only [go_sem]
          refine ⟨_, c_swarfref02_Mul _ _ (by omega), ?_⟩
          refine hK41 _ ?_
          refine rgnX_take 1 (fun K42 hK42 => ?_)
          simp (disch := omega) only [go_sem]
          refine ⟨_, c_swarfref02_Sub _ _ (by omega), ?_⟩
          refine hK42 _ ?_
          simp (disch := omega) only [go_sem]
          refine hK38 _ ?_
          clear hK42 K42 hK41 K41 hK40 K40 hK39 K39 hK38 K38
          refine pwx_sd Tryz.mixed 0 [] (by rfl) [] (by kernel_rfl) (by simp) (fun K43 hK43 => ?_)
          refine rgnX_take 5 (fun K44 hK44 => ?_)
          simp (disch := omega) only [go_sem]
          refine ⟨_, c_swarfref02_Add _ _ (by omega), ?_⟩
          refine hK44 _ ?_
          refine rgnX_take 3 (fun K45 hK45 => ?_)
          simp (disch := omega) only [go_sem]
          refine ⟨_, c_swarfref05_two _ _ _ (by omega), ?_⟩
          refine hK45 _ ?_
          simp (disch := omega) only [go_sem]
          refine hK43 _ ?_
          clear hK45 K45 hK44 K44 hK43 K43
          refine pwp_ret ?_
          refine ⟨Or.inr rfl, ?_⟩
          simp (disch := omega) only [go_sem]
          first | exact quad_2 h0 hb1 (by assumption) | exact quad_r4 h0 hb1 hb (by assumption) ha
set_option maxHeartbeats 4000000 in
theorem c_swarfref05_Sub (a b c a' b' c' : Rat) {k l m k' l' m' : Nat} [SzR a k] [SzR b l] [SzR c m] [SzR a' k'] [SzR b' l'] [SzR c' m'] (hk : k + l + m + k' + l' + m' ≤ 20000) :
    Ret Tryz.prog 98 [.a (ratC (a) ++ (ratC (b) ++ ratC (c))), .a (ratC (a') ++ (ratC (b') ++ ratC (c')))] (.e (.a (ratC (a - a') ++ (ratC b ++ (ratC (-b') ++ (ratC 0 ++ (ratC c ++ ratC c'))))))) := by
  refine ret_of_body (md := {}) Tryz.func98 (by kernel_rfl) rfl ?_
  simp only [Tryz.f98, List.map_cons, List.map_nil, List.length_cons, List.length_nil, Nat.zero_add, Nat.reduceAdd, Nat.reduceSub, List.reduceReplicate, List.cons_append, List.nil_append]
  refine pwx_sr 3 [] (by rfl) (fun K1 hK1 => ?_)
  simp (disch := omega) only [go_sem]
  refine hK1 _ ?_
  clear hK1 K1
  refine pwx_sd Tryz.mixed 0 [] (by rfl) [] (by kernel_rfl) (by simp) (fun K2 hK2 => ?_)
  refine rgnX_take 5 (fun K3 hK3 => ?_)
  simp (disch := omega) only [go_sem]
  refine ⟨_, c_swarfref02_Sub _ _ (by omega), ?_⟩
  refine hK3 _ ?_
  refine rgnX_take 5 (fun K4 hK4 => ?_)
  simp (disch := omega) only [go_sem]
  refine ⟨_, c_swarfref02_Neg _ (by omega), ?_⟩
  refine hK4 _ ?_
  refine rgnX_take 1 (fun K5 hK5 => ?_)
  simp (disch := omega) only [go_sem]
  refine ⟨_, c_swarfref02_FromInt64 _ (by omega) (by omega), ?_⟩
  refine hK5 _ ?_
  simp (disch := omega) only [go_sem]
  refine hK2 _ ?_
  clear hK5 K5 hK4 K4 hK3 K3 hK2 K2
  refine pwp_ret ?_
  refine ⟨Or.inr rfl, ?_⟩
  simp (disch := omega) only [go_sem]
  all_goals rfl
set_option maxHeartbeats 4000000 in
theorem c_swarfref05_Cmp (a b c a' b' c' : Rat) {k l m k' l' m' : Nat} [SzR a k] [SzR b l] [SzR c m] [SzR a' k'] [SzR b' l'] [SzR c' m'] (hk : k + l + m + k' + l' + m' ≤ 2000) :
    Ret Tryz.prog 60 [.a (ratC (a) ++ (ratC (b) ++ ratC (c))), .a (ratC (a') ++ (ratC (b') ++ ratC (c')))] (.e (.c (.int .i64 (cmpR a b c a' b' c')))) := by
  refine ret_of_body (md := {}) Tryz.func60 (by kernel_rfl) rfl ?_
  simp only [Tryz.f60, List.map_cons, List.map_nil, List.length_cons, List.length_nil, Nat.zero_add, Nat.reduceAdd, Nat.reduceSub, List.reduceReplicate, List.cons_append, List.nil_append]
  refine pwx_sr 2 [] (by rfl) (fun K1 hK1 => ?_)
  simp (disch := omega) only [go_sem]
  refine hK1 _ ?_
  clear hK1 K1
  refine pwx_sr 0 [] (by rfl) (fun K2 hK2 => ?_)
  refine rgnX_take 3 (fun K3 hK3 => ?_)
  simp (disch := omega) only [go_sem]
  refine ⟨_, c_swarfref05_Sub _ _ _ _ _ _ (by omega), ?_⟩
  refine hK3 _ ?_
  refine rgnX_take 1 (fun K4 hK4 => ?_)
  simp (disch := omega) only [go_sem]
  refine ⟨_, c_swarfref05_Sign _ _ _ _ _ _ (by omega), ?_⟩
  refine hK4 _ ?_
  simp (disch := omega) only [go_sem]
  refine hK2 _ ?_
  clear hK4 K4 hK3 K3 hK2 K2
  refine pwp_ret ?_
  refine ⟨Or.inr rfl, ?_⟩
  simp (disch := omega) only [go_sem]
  all_goals rfl

end Go.Proofs.YtbadkjfjdkbgfaaGreat

namespace Go.PL
open Go.RL
/-- A point's radicand in reduced form. -/
def pC (b d c : Rat) : Rat := if b = 0 ∧ d = 0 then 0 else c
instance SzR.pC {b d c : Rat} {k : Nat} [h : SzR c k] : SzR (pC b d c) (1 + k) := SzR.ite
theorem pC_0 {b d c : Rat} (h : b = 0) (h' : d = 0) : pC b d c = 0 := if_pos ⟨h, h'⟩
theorem pC_1 {b d c : Rat} (h : ¬ b = 0) : pC b d c = c := if_neg fun q => h q.1
theorem pC_2 {b d c : Rat} (h : ¬ d = 0) : pC b d c = c := if_neg fun q => h q.2
theorem rC_0 {b c : Rat} (h : b = 0) : rC b c = 0 := if_pos h
theorem rC_1 {b c : Rat} (h : ¬ b = 0) : rC b c = c := if_neg h
theorem rC_nn {b c : Rat} (h : 0 ≤ c) : 0 ≤ rC b c := by
  unfold rC; split
  · exact Rat.le_refl
  · exact h
theorem rK_0 {b c c' : Rat} (h : b = 0) : rK b c c' = c' := if_pos h
theorem rK_1 {b c c' : Rat} (h : ¬ b = 0) : rK b c c' = c := if_neg h
/-- The order of two points. -/
def cmpP (a b d e c a' b' d' e' c' : Rat) : Int :=
  if cmpR a b (rC b c) a' b' (rC b' c') ≠ 0 then cmpR a b (rC b c) a' b' (rC b' c') else cmpR d e (rC e c) d' e' (rC e' c')
theorem cmpP_0 {a b d e c a' b' d' e' c' : Rat} (h : cmpR a b (rC b c) a' b' (rC b' c') = 0) : cmpP a b d e c a' b' d' e' c' = cmpR d e (rC e c) d' e' (rC e' c') := if_neg (by rw [h]; simp)
theorem cmpP_1 {a b d e c a' b' d' e' c' : Rat} (h : ¬ cmpR a b (rC b c) a' b' (rC b' c') = 0) : cmpP a b d e c a' b' d' e' c' = cmpR a b (rC b c) a' b' (rC b' c') := if_pos h
/-- The square of a distance: its parts. -/
def sqA (a b d e c v w : Rat) : Rat := (a - v) * (a - v) + (d - w) * (d - w) + (b * b + e * e) * c
def sqB2 (a b d e v w : Rat) : Rat := (a - v) * b + (d - w) * e + ((a - v) * b + (d - w) * e)
/-- Is a point of valid numbers in reduced form? -/
def vldP (b e c : Rat) : Bool := if b = 0 ∧ e = 0 then decide (c = 0) else decide (0 < c) && !sqB c
theorem vldP_0 {b e c : Rat} (h : b = 0) (h' : e = 0) : vldP b e c = decide (c = 0) := if_pos ⟨h, h'⟩
theorem vldP_1 {b e c : Rat} (h : ¬ b = 0) : vldP b e c = (decide (0 < c) && !sqB c) := if_neg fun q => h q.1
theorem vldP_2 {b e c : Rat} (h : ¬ e = 0) : vldP b e c = (decide (0 < c) && !sqB c) := if_neg fun q => h q.2
theorem five {a b c d e : Bool} : a = false ∨ (a = true ∧ b = false) ∨ (a = true ∧ b = true ∧ c = false) ∨ (a = true ∧ b = true ∧ c = true ∧ d = false) ∨ (a = true ∧ b = true ∧ c = true ∧ d = true ∧ e = false) ∨ (a = true ∧ b = true ∧ c = true ∧ d = true ∧ e = true) := by
  cases a <;> cases b <;> cases c <;> cases d <;> cases e <;> simp
theorem r3_rC {b c : Rat} (h : b = 0 ∨ ¬ c = 0) : r3B b c = b ∧ r3C b c = rC b c := by
  by_cases hb : b = 0
  · simp [r3B, r3C, rC, hb]
  · have hc : ¬ c = 0 := h.resolve_left hb
    simp [r3B, r3C, rC, hb, hc]
theorem five_f {a b c d e : Bool} (h : ¬ (a = true ∧ b = true ∧ c = true ∧ d = true ∧ e = true)) : a = false ∨ (a = true ∧ b = false) ∨ (a = true ∧ b = true ∧ c = false) ∨ (a = true ∧ b = true ∧ c = true ∧ d = false) ∨ (a = true ∧ b = true ∧ c = true ∧ d = true ∧ e = false) := by
  cases a <;> cases b <;> cases c <;> cases d <;> cases e <;> simp_all
theorem nzi_t {n : Int} (h : (!decide (n = 0)) = true) : ¬ n = 0 := by simpa using h
theorem nzi_f {n : Int} (h : (!decide (n = 0)) = false) : n = 0 := by simpa using h
end Go.PL

set_option linter.unusedSimpArgs false
set_option linter.unusedVariables false
set_option maxRecDepth 20000
namespace Go.Proofs.YtbadkjfjdkbgfaaGreat
open Go Go.PL Go.RL
set_option maxHeartbeats 4000000 in
theorem c_point_zero :
    Ret Tryz.prog 75 [] (.e (.a (ratC 0))) := by
  refine ret_of_body (md := {}) Tryz.func75 (by kernel_rfl) rfl ?_
  simp only [Tryz.f75, List.map_cons, List.map_nil, List.length_cons, List.length_nil, Nat.zero_add, Nat.reduceAdd, Nat.reduceSub, List.reduceReplicate, List.cons_append, List.nil_append]
  refine pwx_sr 1 [] (by rfl) (fun K1 hK1 => ?_)
  simp (disch := omega) only [go_sem]
  refine hK1 _ ?_
  clear hK1 K1
  refine pwx_sr 0 [] (by rfl) (fun K2 hK2 => ?_)
  refine rgnX_take 1 (fun K3 hK3 => ?_)
  simp (disch := omega) only [go_sem]
  refine ⟨_, c_rational_FromInt64 _ (by omega) (by omega), ?_⟩
  refine hK3 _ ?_
  simp (disch := omega) only [go_sem]
  refine hK2 _ ?_
  clear hK3 K3 hK2 K2
  refine pwp_ret ?_
  refine ⟨Or.inr rfl, ?_⟩
  simp (disch := omega) only [go_sem]
  all_goals rfl
set_option maxHeartbeats 4000000 in
theorem c_point_coordinate (a b c : Rat) :
    Ret Tryz.prog 57 [.a (ratC a), .a (ratC b), .a (ratC c)] (.e (.a (ratC (a) ++ (ratC (b) ++ ratC (rC b c))))) := by
  refine ret_of_body (md := {}) Tryz.func57 (by kernel_rfl) rfl ?_
  simp only [Tryz.f57, List.map_cons, List.map_nil, List.length_cons, List.length_nil, Nat.zero_add, Nat.reduceAdd, Nat.reduceSub, List.reduceReplicate, List.cons_append, List.nil_append]
  refine pwx_sr 4 [] (by rfl) (fun K1 hK1 => ?_)
  simp (disch := omega) only [go_sem]
  refine hK1 _ ?_
  clear hK1 K1
  refine pwp_seq ?_
  refine pwx_sr 0 [] (by rfl) (fun K2 hK2 => ?_)
  refine rgnX_take 2 (fun K3 hK3 => ?_)
  simp (disch := omega) only [go_sem]
  refine ⟨_, c_rational_Sign _, ?_⟩
  refine hK3 _ ?_
  simp (disch := omega) only [go_sem]
  refine hK2 _ ?_
  clear hK3 K3 hK2 K2
  refine pwp_cond (b := _) (by rfl) (fun hb0 => ?_) (fun hb0 => ?_)
  · first | replace hb0 := of_decide_eq_true hb0 | replace hb0 := of_decide_eq_false hb0 | skip
    refine pwx_region 0 [] (by rfl) (fun K4 hK4 => ?_)
    refine rgnX_take 1 (fun K5 hK5 => ?_)
    simp (disch := omega) only [go_sem]
    refine ⟨_, c_point_zero, ?_⟩
    refine hK5 _ ?_
    simp (disch := omega) only [go_sem]
    refine hK4 _ ?_
    clear hK5 K5 hK4 K4
    refine n_then ?_
    refine pwx_sr 0 [] (by rfl) (fun K6 hK6 => ?_)
    simp (disch := omega) only [go_sem]
    refine hK6 _ ?_
    clear hK6 K6
    refine pwp_ret ?_
    refine ⟨Or.inr rfl, ?_⟩
    simp (disch := omega) only [go_sem]
    all_goals first | rw [rC_0 (by assumption)] | rw [rC_1 (by assumption)]
  · first | replace hb0 := of_decide_eq_true hb0 | replace hb0 := of_decide_eq_false hb0 | skip
    refine pwp_skip ?_
    refine n_then ?_
    refine pwx_sr 0 [] (by rfl) (fun K7 hK7 => ?_)
    simp (disch := omega) only [go_sem]
    refine hK7 _ ?_
    clear hK7 K7
    refine pwp_ret ?_
    refine ⟨Or.inr rfl, ?_⟩
    simp (disch := omega) only [go_sem]
    all_goals first | rw [rC_0 (by assumption)] | rw [rC_1 (by assumption)]
set_option maxHeartbeats 4000000 in
theorem c_point_X (a b d e c : Rat) :
    Ret Tryz.prog 17 [.a (ratC (a) ++ (ratC (b) ++ (ratC (d) ++ (ratC (e) ++ ratC (c)))))] (.e (.a (ratC (a) ++ (ratC (b) ++ ratC (rC b c))))) := by
  refine ret_of_body (md := {}) Tryz.func17 (by kernel_rfl) rfl ?_
  simp only [Tryz.f17, List.map_cons, List.map_nil, List.length_cons, List.length_nil, Nat.zero_add, Nat.reduceAdd, Nat.reduceSub, List.reduceReplicate, List.cons_append, List.nil_append]
  refine pwx_sr 2 [] (by rfl) (fun K1 hK1 => ?_)
  simp (disch := omega) only [go_sem]
  refine hK1 _ ?_
  clear hK1 K1
  refine pwx_sr 0 [] (by rfl) (fun K2 hK2 => ?_)
  refine rgnX_take 7 (fun K3 hK3 => ?_)
  simp (disch := omega) only [go_sem]
  refine ⟨_, c_point_coordinate _ _ _, ?_⟩
  refine hK3 _ ?_
  simp (disch := omega) only [go_sem]
  refine hK2 _ ?_
  clear hK3 K3 hK2 K2
  refine pwp_ret ?_
  refine ⟨Or.inr rfl, ?_⟩
  simp (disch := omega) only [go_sem]
set_option maxHeartbeats 4000000 in
theorem c_point_Y (a b d e c : Rat) :
    Ret Tryz.prog 18 [.a (ratC (a) ++ (ratC (b) ++ (ratC (d) ++ (ratC (e) ++ ratC (c)))))] (.e (.a (ratC (d) ++ (ratC (e) ++ ratC (rC e c))))) := by
  refine ret_of_body (md := {}) Tryz.func18 (by kernel_rfl) rfl ?_
  simp only [Tryz.f18, List.map_cons, List.map_nil, List.length_cons, List.length_nil, Nat.zero_add, Nat.reduceAdd, Nat.reduceSub, List.reduceReplicate, List.cons_append, List.nil_append]
  refine pwx_sr 2 [] (by rfl) (fun K1 hK1 => ?_)
  simp (disch := omega) only [go_sem]
  refine hK1 _ ?_
  clear hK1 K1
  refine pwx_sr 0 [] (by rfl) (fun K2 hK2 => ?_)
  refine rgnX_take 7 (fun K3 hK3 => ?_)
  simp (disch := omega) only [go_sem]
  refine ⟨_, c_point_coordinate _ _ _, ?_⟩
  refine hK3 _ ?_
  simp (disch := omega) only [go_sem]
  refine hK2 _ ?_
  clear hK3 K3 hK2 K2
  refine pwp_ret ?_
  refine ⟨Or.inr rfl, ?_⟩
  simp (disch := omega) only [go_sem]
set_option maxHeartbeats 4000000 in
theorem c_point_reduced (a b d e c : Rat) :
    Ret Tryz.prog 53 [.a (ratC (a) ++ (ratC (b) ++ (ratC (d) ++ (ratC (e) ++ ratC (c)))))] (.e (.a (ratC (a) ++ (ratC (b) ++ (ratC (d) ++ (ratC (e) ++ ratC (pC b e c))))))) := by
  refine ret_of_body (md := {}) Tryz.func53 (by kernel_rfl) rfl ?_
  simp only [Tryz.f53, List.map_cons, List.map_nil, List.length_cons, List.length_nil, Nat.zero_add, Nat.reduceAdd, Nat.reduceSub, List.reduceReplicate, List.cons_append, List.nil_append]
  refine pwx_sr 2 [] (by rfl) (fun K1 hK1 => ?_)
  simp (disch := omega) only [go_sem]
  refine hK1 _ ?_
  clear hK1 K1
  refine pwp_seq ?_
  by_cases h0 : b = 0
  · refine pwx_sr 0 [some 3, some 4, some 5, some 6, some 7, some 8, some 9, some 10, some 11, some 12] (by rfl) (fun K2 hK2 => ?_)
    refine rgnX_take 3 (fun K3 hK3 => ?_)
    simp (disch := omega) only [go_sem]
    refine ⟨_, c_rational_Sign _, ?_⟩
    refine hK3 _ ?_
    refine rgnX_take 5 (fun K4 hK4 => ?_)
    simp (disch := omega) only [go_sem]
    first | refine ⟨_, c_rational_Sign _, ?_⟩ | skip
    refine hK4 _ ?_
    simp (disch := omega) only [go_sem]
    refine hK2 _ ?_
    clear hK4 K4 hK3 K3 hK2 K2
    refine pwp_cond (b := _) (by rfl) (fun hb0 => ?_) (fun hb0 => ?_)
    · first | replace hb0 := of_decide_eq_true hb0 | replace hb0 := of_decide_eq_false hb0 | skip
      refine pwx_region 0 [] (by rfl) (fun K5 hK5 => ?_)
      refine rgnX_take 1 (fun K6 hK6 => ?_)
      simp (disch := omega) only [go_sem]
      refine ⟨_, c_point_zero, ?_⟩
      refine hK6 _ ?_
      simp (disch := omega) only [go_sem]
      refine hK5 _ ?_
      clear hK6 K6 hK5 K5
      refine n_then ?_
      refine pwx_sr 0 [] (by rfl) (fun K7 hK7 => ?_)
      simp (disch := omega) only [go_sem]
      refine hK7 _ ?_
      clear hK7 K7
      refine pwp_ret ?_
      refine ⟨Or.inr rfl, ?_⟩
      simp (disch := omega) only [go_sem]
      all_goals first | rw [pC_0 (by assumption) (by assumption)] | rw [pC_1 (by assumption)] | rw [pC_2 (by assumption)]
    · first | replace hb0 := of_decide_eq_true hb0 | replace hb0 := of_decide_eq_false hb0 | skip
      refine pwp_skip ?_
      refine n_then ?_
      refine pwx_sr 0 [] (by rfl) (fun K8 hK8 => ?_)
      simp (disch := omega) only [go_sem]
      refine hK8 _ ?_
      clear hK8 K8
      refine pwp_ret ?_
      refine ⟨Or.inr rfl, ?_⟩
      simp (disch := omega) only [go_sem]
      all_goals first | rw [pC_0 (by assumption) (by assumption)] | rw [pC_1 (by assumption)] | rw [pC_2 (by assumption)]
  · refine pwx_sr 0 [some 3, some 4, some 5, some 6, some 7, some 8, some 9, some 10, some 11, some 12] (by rfl) (fun K9 hK9 => ?_)
    refine rgnX_take 3 (fun K10 hK10 => ?_)
    simp (disch := omega) only [go_sem]
    refine ⟨_, c_rational_Sign _, ?_⟩
    refine hK10 _ ?_
    refine rgnX_take 5 (fun K11 hK11 => ?_)
    simp (disch := omega) only [go_sem]
    first | refine ⟨_, c_rational_Sign _, ?_⟩ | skip
    refine hK11 _ ?_
    simp (disch := omega) only [go_sem]
    refine hK9 _ ?_
    clear hK11 K11 hK10 K10 hK9 K9
    refine pwp_cond (b := false) (by rfl) (fun h => nomatch h) (fun _ => ?_)
    refine pwp_skip ?_
    refine n_then ?_
    refine pwx_sr 0 [] (by rfl) (fun K12 hK12 => ?_)
    simp (disch := omega) only [go_sem]
    refine hK12 _ ?_
    clear hK12 K12
    refine pwp_ret ?_
    refine ⟨Or.inr rfl, ?_⟩
    simp (disch := omega) only [go_sem]
    all_goals first | rw [pC_0 (by assumption) (by assumption)] | rw [pC_1 (by assumption)] | rw [pC_2 (by assumption)]
set_option maxHeartbeats 4000000 in
theorem c_point_At (v w : Rat) :
    Ret Tryz.prog 34 [.a (ratC (v) ++ ratC (w))] (.e (.a (ratC (v) ++ (ratC (0) ++ (ratC (w) ++ (ratC (0) ++ ratC (0))))))) := by
  refine ret_of_body (md := {}) Tryz.func34 (by kernel_rfl) rfl ?_
  simp only [Tryz.f34, List.map_cons, List.map_nil, List.length_cons, List.length_nil, Nat.zero_add, Nat.reduceAdd, Nat.reduceSub, List.reduceReplicate, List.cons_append, List.nil_append]
  refine pwx_sr 2 [] (by rfl) (fun K1 hK1 => ?_)
  simp (disch := omega) only [go_sem]
  refine hK1 _ ?_
  clear hK1 K1
  refine pwx_sd Tryz.mixed 0 [] (by rfl) [] (by kernel_rfl) (by simp) (fun K2 hK2 => ?_)
  refine rgnX_take 3 (fun K3 hK3 => ?_)
  simp (disch := omega) only [go_sem]
  refine ⟨_, c_point_zero, ?_⟩
  refine hK3 _ ?_
  refine rgnX_take 3 (fun K4 hK4 => ?_)
  simp (disch := omega) only [go_sem]
  refine ⟨_, c_point_zero, ?_⟩
  refine hK4 _ ?_
  refine rgnX_take 1 (fun K5 hK5 => ?_)
  simp (disch := omega) only [go_sem]
  refine ⟨_, c_point_zero, ?_⟩
  refine hK5 _ ?_
  simp (disch := omega) only [go_sem]
  refine hK2 _ ?_
  clear hK5 K5 hK4 K4 hK3 K3 hK2 K2
  refine pwp_ret ?_
  refine ⟨Or.inr rfl, ?_⟩
  simp (disch := omega) only [go_sem]
set_option maxHeartbeats 4000000 in
theorem c_point_OfGrid (x y : Int) (hx : -9223372036854775808 ≤ x) (hx' : x < 9223372036854775808) (hy : -9223372036854775808 ≤ y) (hy' : y < 9223372036854775808) :
    Ret Tryz.prog 35 [.a [.int .i64 x, .int .i64 y]] (.e (.a (ratC ((x : Rat)) ++ (ratC (0) ++ (ratC ((y : Rat)) ++ (ratC (0) ++ ratC (0))))))) := by
  refine ret_of_body (md := {}) Tryz.func35 (by kernel_rfl) rfl ?_
  simp only [Tryz.f35, List.map_cons, List.map_nil, List.length_cons, List.length_nil, Nat.zero_add, Nat.reduceAdd, Nat.reduceSub, List.reduceReplicate, List.cons_append, List.nil_append]
  refine pwx_sr 2 [] (by rfl) (fun K1 hK1 => ?_)
  simp (disch := omega) only [go_sem]
  refine hK1 _ ?_
  clear hK1 K1
  refine pwx_sd Tryz.mixed 0 [] (by rfl) [] (by kernel_rfl) (by simp) (fun K2 hK2 => ?_)
  refine rgnX_take 3 (fun K3 hK3 => ?_)
  simp (disch := omega) only [go_sem]
  refine ⟨_, c_rational_FromInt64 _ (by omega) (by omega), ?_⟩
  refine hK3 _ ?_
  refine rgnX_take 3 (fun K4 hK4 => ?_)
  simp (disch := omega) only [go_sem]
  refine ⟨_, c_rational_FromInt64 _ (by omega) (by omega), ?_⟩
  refine hK4 _ ?_
  refine rgnX_take 2 (fun K5 hK5 => ?_)
  simp (disch := omega) only [go_sem]
  refine ⟨_, c_point_At _ _, ?_⟩
  refine hK5 _ ?_
  simp (disch := omega) only [go_sem]
  refine hK2 _ ?_
  clear hK5 K5 hK4 K4 hK3 K3 hK2 K2
  refine pwp_ret ?_
  refine ⟨Or.inr rfl, ?_⟩
  simp (disch := omega) only [go_sem]
set_option maxHeartbeats 4000000 in
theorem c_point_Make_t (a b c a' b' c' : Rat) {k l m k' l' m' : Nat} [SzR a k] [SzR b l] [SzR c m] [SzR a' k'] [SzR b' l'] [SzR c' m'] (hk : k + l + m + k' + l' + m' ≤ 3000) (hm : b = 0 ∨ b' = 0 ∨ c = c') :
    Ret Tryz.prog 13 [.a (ratC (a) ++ (ratC (b) ++ ratC (c))), .a (ratC (a') ++ (ratC (b') ++ ratC (c')))] (.t [.a (ratC (a) ++ (ratC (b) ++ (ratC (a') ++ (ratC (b') ++ ratC (pC b b' (rK b c c')))))), .c (.int .i64 0)]) := by
  refine ret_of_body (md := {}) Tryz.func13 (by kernel_rfl) rfl ?_
  simp only [Tryz.f13, List.map_cons, List.map_nil, List.length_cons, List.length_nil, Nat.zero_add, Nat.reduceAdd, Nat.reduceSub, List.reduceReplicate, List.cons_append, List.nil_append]
  refine pwx_sr 3 [] (by rfl) (fun K1 hK1 => ?_)
  simp (disch := omega) only [go_sem]
  refine hK1 _ ?_
  clear hK1 K1
  refine pwx_sr 1 [] (by rfl) (fun K2 hK2 => ?_)
  simp (disch := omega) only [go_sem]
  refine hK2 _ ?_
  clear hK2 K2
  refine pwp_seq ?_
  refine pwx_sr 0 [] (by rfl) (fun K3 hK3 => ?_)
  refine rgnX_take 3 (fun K4 hK4 => ?_)
  simp (disch := omega) only [go_sem]
  refine ⟨_, c_rational_Sign _, ?_⟩
  refine hK4 _ ?_
  simp (disch := omega) only [go_sem]
  refine hK3 _ ?_
  clear hK4 K4 hK3 K3
  refine pwp_cond (b := _) (by rfl) (fun hb0 => ?_) (fun hb0 => ?_)
  · first | replace hb0 := of_decide_eq_true hb0 | replace hb0 := of_decide_eq_false hb0 | skip
    refine pwx_region 0 [] (by rfl) (fun K5 hK5 => ?_)
    simp (disch := omega) only [go_sem]
    refine hK5 _ ?_
    clear hK5 K5
    refine n_then ?_
    refine pwx_sr 0 [] (by rfl) (fun K6 hK6 => ?_)
    refine rgnX_take 11 (fun K7 hK7 => ?_)
    simp (disch := omega) only [go_sem]
    refine ⟨_, c_point_reduced _ _ _ _ _, ?_⟩
    refine hK7 _ ?_
    simp (disch := omega) only [go_sem]
    refine hK6 _ ?_
    clear hK7 K7 hK6 K6
    refine pwp_ret ?_
    refine ⟨Or.inr rfl, ?_⟩
    simp (disch := omega) only [go_sem]
    all_goals first | rw [rK_0 (by assumption)] | rw [rK_1 (by assumption)]
  · first | replace hb0 := of_decide_eq_true hb0 | replace hb0 := of_decide_eq_false hb0 | skip
    by_cases h1 : b' = 0
    · refine pwx_sr 0 [some 15, some 16, some 17, some 18, some 19, some 20, some 21, some 22, some 23, some 24, some 25, some 26] (by rfl) (fun K8 hK8 => ?_)
      refine rgnX_take 3 (fun K9 hK9 => ?_)
      simp (disch := omega) only [go_sem]
      refine ⟨_, c_rational_Sign _, ?_⟩
      refine hK9 _ ?_
      refine rgnX_take 7 (fun K10 hK10 => ?_)
      simp (disch := omega) only [go_sem]
      first | refine ⟨_, c_rational_Cmp _ _ (by omega), ?_⟩ | skip
      refine hK10 _ ?_
      simp (disch := omega) only [go_sem]
      refine hK8 _ ?_
      clear hK10 K10 hK9 K9 hK8 K8
      refine pwp_cond (b := false) (by rfl) (fun h => nomatch h) (fun _ => ?_)
      refine pwp_skip ?_
      refine n_then ?_
      refine pwx_sr 0 [] (by rfl) (fun K11 hK11 => ?_)
      refine rgnX_take 11 (fun K12 hK12 => ?_)
      simp (disch := omega) only [go_sem]
      refine ⟨_, c_point_reduced _ _ _ _ _, ?_⟩
      refine hK12 _ ?_
      simp (disch := omega) only [go_sem]
      refine hK11 _ ?_
      clear hK12 K12 hK11 K11
      refine pwp_ret ?_
      refine ⟨Or.inr rfl, ?_⟩
      simp (disch := omega) only [go_sem]
      all_goals first | rw [rK_0 (by assumption)] | rw [rK_1 (by assumption)]
    · refine pwx_sr 0 [some 15, some 16, some 17, some 18, some 19, some 20, some 21, some 22, some 23, some 24, some 25, some 26] (by rfl) (fun K13 hK13 => ?_)
      refine rgnX_take 3 (fun K14 hK14 => ?_)
      simp (disch := omega) only [go_sem]
      refine ⟨_, c_rational_Sign _, ?_⟩
      refine hK14 _ ?_
      refine rgnX_take 7 (fun K15 hK15 => ?_)
      simp (disch := omega) only [go_sem]
      first | refine ⟨_, c_rational_Cmp _ _ (by omega), ?_⟩ | skip
      refine hK15 _ ?_
      simp (disch := omega) only [go_sem]
      refine hK13 _ ?_
      clear hK15 K15 hK14 K14 hK13 K13
      refine pwp_cond (b := _) (by rfl) (fun hb2 => ?_) (fun hb2 => ?_)
      · exfalso; simp_all
      · first | replace hb2 := of_decide_eq_true hb2 | replace hb2 := of_decide_eq_false hb2 | skip
        refine pwp_skip ?_
        refine n_then ?_
        refine pwx_sr 0 [] (by rfl) (fun K16 hK16 => ?_)
        refine rgnX_take 11 (fun K17 hK17 => ?_)
        simp (disch := omega) only [go_sem]
        refine ⟨_, c_point_reduced _ _ _ _ _, ?_⟩
        refine hK17 _ ?_
        simp (disch := omega) only [go_sem]
        refine hK16 _ ?_
        clear hK17 K17 hK16 K16
        refine pwp_ret ?_
        refine ⟨Or.inr rfl, ?_⟩
        simp (disch := omega) only [go_sem]
        all_goals first | rw [rK_0 (by assumption)] | rw [rK_1 (by assumption)]
set_option maxHeartbeats 4000000 in
theorem c_point_Make_f (a b c a' b' c' : Rat) {k l m k' l' m' : Nat} [SzR a k] [SzR b l] [SzR c m] [SzR a' k'] [SzR b' l'] [SzR c' m'] (hk : k + l + m + k' + l' + m' ≤ 3000) (hm : ¬ (b = 0 ∨ b' = 0 ∨ c = c')) :
    Ret Tryz.prog 13 [.a (ratC (a) ++ (ratC (b) ++ ratC (c))), .a (ratC (a') ++ (ratC (b') ++ ratC (c')))] (.t [.a [.bool false, .sl 0 [], .bool false, .sl 0 [], .bool false, .sl 0 [], .bool false, .sl 0 [], .bool false, .sl 0 [], .bool false, .sl 0 [], .bool false, .sl 0 [], .bool false, .sl 0 [], .bool false, .sl 0 [], .bool false, .sl 0 []], .c (.int .i64 1)]) := by
  refine ret_of_body (md := {}) Tryz.func13 (by kernel_rfl) rfl ?_
  simp only [Tryz.f13, List.map_cons, List.map_nil, List.length_cons, List.length_nil, Nat.zero_add, Nat.reduceAdd, Nat.reduceSub, List.reduceReplicate, List.cons_append, List.nil_append]
  simp only [not_or] at hm
  obtain ⟨m1, m2, m3⟩ := hm
  refine pwx_sr 3 [] (by rfl) (fun K1 hK1 => ?_)
  simp (disch := omega) only [go_sem]
  refine hK1 _ ?_
  clear hK1 K1
  refine pwx_sr 1 [] (by rfl) (fun K2 hK2 => ?_)
  simp (disch := omega) only [go_sem]
  refine hK2 _ ?_
  clear hK2 K2
  refine pwp_seq ?_
  refine pwx_sr 0 [] (by rfl) (fun K3 hK3 => ?_)
  refine rgnX_take 3 (fun K4 hK4 => ?_)
  simp (disch := omega) only [go_sem, m1, decide_false]
  refine ⟨_, c_rational_Sign _, ?_⟩
  refine hK4 _ ?_
  simp (disch := omega) only [go_sem, m1, decide_false]
  refine hK3 _ ?_
  clear hK4 K4 hK3 K3
  refine pwp_cond (b := _) (by rfl) (fun hb0 => ?_) (fun hb0 => ?_)
  · exfalso; simp_all
  · first | replace hb0 := of_decide_eq_true hb0 | replace hb0 := of_decide_eq_false hb0 | skip
    refine pwx_sr 0 [some 15, some 16, some 17, some 18, some 19, some 20, some 21, some 22, some 23, some 24, some 25, some 26] (by rfl) (fun K5 hK5 => ?_)
    refine rgnX_take 3 (fun K6 hK6 => ?_)
    simp (disch := omega) only [go_sem, m2, decide_false]
    refine ⟨_, c_rational_Sign _, ?_⟩
    refine hK6 _ ?_
    refine rgnX_take 7 (fun K7 hK7 => ?_)
    simp (disch := omega) only [go_sem, m2, decide_false]
    first | refine ⟨_, c_rational_Cmp _ _ (by omega), ?_⟩ | skip
    refine hK7 _ ?_
    simp (disch := omega) only [go_sem, m2, decide_false]
    refine hK5 _ ?_
    clear hK7 K7 hK6 K6 hK5 K5
    refine pwp_cond (b := _) (by rfl) (fun hb1 => ?_) (fun hb1 => ?_)
    · first | replace hb1 := of_decide_eq_true hb1 | replace hb1 := of_decide_eq_false hb1 | skip
      refine pwx_sr 0 [] (by rfl) (fun K8 hK8 => ?_)
      simp (disch := omega) only [go_sem]
      refine hK8 _ ?_
      clear hK8 K8
      refine pwp_ret ?_
      refine r_then ?_
      refine ⟨Or.inr rfl, ?_⟩
      simp (disch := omega) only [go_sem]
    · exfalso; simp_all
set_option maxHeartbeats 4000000 in
theorem c_point_Compare (a b d e c : Rat) {k1 k2 k3 k4 k5 : Nat} [SzR a k1] [SzR b k2] [SzR d k3] [SzR e k4] [SzR c k5] (a' b' d' e' c' : Rat) {l1 l2 l3 l4 l5 : Nat} [SzR a' l1] [SzR b' l2] [SzR d' l3] [SzR e' l4] [SzR c' l5] (hk : k1 + k2 + k3 + k4 + k5 + l1 + l2 + l3 + l4 + l5 ≤ 900) (hc : 0 ≤ c) (hc' : 0 ≤ c') :
    Ret Tryz.prog 20 [.a (ratC (a) ++ (ratC (b) ++ (ratC (d) ++ (ratC (e) ++ ratC (c))))), .a (ratC (a') ++ (ratC (b') ++ (ratC (d') ++ (ratC (e') ++ ratC (c')))))] (.e (.c (.int .i64 (cmpP a b d e c a' b' d' e' c')))) := by
  refine ret_of_body (md := {}) Tryz.func20 (by kernel_rfl) rfl ?_
  simp only [Tryz.f20, List.map_cons, List.map_nil, List.length_cons, List.length_nil, Nat.zero_add, Nat.reduceAdd, Nat.reduceSub, List.reduceReplicate, List.cons_append, List.nil_append]
  refine pwx_sr 2 [] (by rfl) (fun K1 hK1 => ?_)
  simp (disch := omega) only [go_sem]
  refine hK1 _ ?_
  clear hK1 K1
  refine pwp_seq ?_
  refine pwx_sd Tryz.mixed 0 [] (by rfl) [] (by kernel_rfl) (by simp) (fun K2 hK2 => ?_)
  refine rgnX_take 2 (fun K3 hK3 => ?_)
  simp (disch := omega) only [go_sem]
  refine ⟨_, c_point_X _ _ _ _ _, ?_⟩
  refine hK3 _ ?_
  refine rgnX_take 2 (fun K4 hK4 => ?_)
  simp (disch := omega) only [go_sem]
  refine ⟨_, c_point_X _ _ _ _ _, ?_⟩
  refine hK4 _ ?_
  refine rgnX_take 1 (fun K5 hK5 => ?_)
  simp (disch := omega) only [go_sem]
  refine ⟨_, c_radical_Cmp _ _ _ _ _ _ (by omega) (rC_nn (by assumption)) (rC_nn (by assumption)), ?_⟩
  refine hK5 _ ?_
  simp (disch := omega) only [go_sem]
  refine hK2 _ ?_
  clear hK5 K5 hK4 K4 hK3 K3 hK2 K2
  refine pwx_sr 0 [] (by rfl) (fun K6 hK6 => ?_)
  simp (disch := omega) only [go_sem]
  refine hK6 _ ?_
  clear hK6 K6
  refine pwp_cond (b := _) (by rfl) (fun hb0 => ?_) (fun hb0 => ?_)
  · have hz := nzi_t hb0
    refine pwx_sr 0 [] (by rfl) (fun K7 hK7 => ?_)
    simp (disch := omega) only [go_sem]
    refine hK7 _ ?_
    clear hK7 K7
    refine pwp_ret ?_
    refine r_then ?_
    refine ⟨Or.inr rfl, ?_⟩
    simp (disch := omega) only [go_sem]
    all_goals first | rw [cmpP_0 hz] | rw [cmpP_1 hz]
  · have hz := nzi_f hb0
    refine pwp_skip ?_
    refine n_then ?_
    refine pwx_sd Tryz.mixed 0 [] (by rfl) [] (by kernel_rfl) (by simp) (fun K8 hK8 => ?_)
    refine rgnX_take 2 (fun K9 hK9 => ?_)
    simp (disch := omega) only [go_sem]
    refine ⟨_, c_point_Y _ _ _ _ _, ?_⟩
    refine hK9 _ ?_
    refine rgnX_take 2 (fun K10 hK10 => ?_)
    simp (disch := omega) only [go_sem]
    refine ⟨_, c_point_Y _ _ _ _ _, ?_⟩
    refine hK10 _ ?_
    refine rgnX_take 1 (fun K11 hK11 => ?_)
    simp (disch := omega) only [go_sem]
    refine ⟨_, c_radical_Cmp _ _ _ _ _ _ (by omega) (rC_nn (by assumption)) (rC_nn (by assumption)), ?_⟩
    refine hK11 _ ?_
    simp (disch := omega) only [go_sem]
    refine hK8 _ ?_
    clear hK11 K11 hK10 K10 hK9 K9 hK8 K8
    refine pwp_ret ?_
    refine ⟨Or.inr rfl, ?_⟩
    simp (disch := omega) only [go_sem]
    all_goals first | rw [cmpP_0 hz] | rw [cmpP_1 hz]
set_option maxHeartbeats 4000000 in
theorem c_point_Equal (a b d e c : Rat) {k1 k2 k3 k4 k5 : Nat} [SzR a k1] [SzR b k2] [SzR d k3] [SzR e k4] [SzR c k5] (a' b' d' e' c' : Rat) {l1 l2 l3 l4 l5 : Nat} [SzR a' l1] [SzR b' l2] [SzR d' l3] [SzR e' l4] [SzR c' l5] (hk : k1 + k2 + k3 + k4 + k5 + l1 + l2 + l3 + l4 + l5 ≤ 900) (hc : 0 ≤ c) (hc' : 0 ≤ c') :
    Ret Tryz.prog 22 [.a (ratC (a) ++ (ratC (b) ++ (ratC (d) ++ (ratC (e) ++ ratC (c))))), .a (ratC (a') ++ (ratC (b') ++ (ratC (d') ++ (ratC (e') ++ ratC (c')))))] (.e (.c (.bool (decide (cmpP a b d e c a' b' d' e' c' = 0))))) := by
  refine ret_of_body (md := {}) Tryz.func22 (by kernel_rfl) rfl ?_
  simp only [Tryz.f22, List.map_cons, List.map_nil, List.length_cons, List.length_nil, Nat.zero_add, Nat.reduceAdd, Nat.reduceSub, List.reduceReplicate, List.cons_append, List.nil_append]
  refine pwx_sr 2 [] (by rfl) (fun K1 hK1 => ?_)
  simp (disch := omega) only [go_sem]
  refine hK1 _ ?_
  clear hK1 K1
  refine pwx_sr 0 [] (by rfl) (fun K2 hK2 => ?_)
  refine rgnX_take 3 (fun K3 hK3 => ?_)
  simp (disch := omega) only [go_sem]
  refine ⟨_, c_point_Compare _ _ _ _ _ _ _ _ _ _ (by omega) (by assumption) (by assumption), ?_⟩
  refine hK3 _ ?_
  simp (disch := omega) only [go_sem]
  refine hK2 _ ?_
  clear hK3 K3 hK2 K2
  refine pwp_ret ?_
  refine ⟨Or.inr rfl, ?_⟩
  simp (disch := omega) only [go_sem]
set_option maxHeartbeats 4000000 in
theorem c_point_Square (a b d e c v w : Rat) {k6 k7 k1 k2 k3 k4 k5 : Nat} [SzR a k1] [SzR b k2] [SzR d k3] [SzR e k4] [SzR c k5] [SzR v k6] [SzR w k7] (hk : k1 + k2 + k3 + k4 + k5 + k6 + k7 ≤ 400) :
    Ret Tryz.prog 24 [.a (ratC (a) ++ (ratC (b) ++ (ratC (d) ++ (ratC (e) ++ ratC (c))))), .a (ratC (v) ++ ratC (w))] (.e (.a (ratC (sqA a b d e c v w) ++ (ratC (sqB2 a b d e v w) ++ ratC (rC (sqB2 a b d e v w) c))))) := by
  refine ret_of_body (md := {}) Tryz.func24 (by kernel_rfl) rfl ?_
  simp only [Tryz.f24, List.map_cons, List.map_nil, List.length_cons, List.length_nil, Nat.zero_add, Nat.reduceAdd, Nat.reduceSub, List.reduceReplicate, List.cons_append, List.nil_append]
  refine pwx_sr 3 [] (by rfl) (fun K1 hK1 => ?_)
  simp (disch := omega) only [go_sem]
  refine hK1 _ ?_
  clear hK1 K1
  refine pwx_sd Tryz.mixed 2 [] (by rfl) [] (by kernel_rfl) (by simp) (fun K2 hK2 => ?_)
  refine rgnX_take 5 (fun K3 hK3 => ?_)
  simp (disch := omega) only [go_sem]
  refine ⟨_, c_rational_Sub _ _ (by omega), ?_⟩
  refine hK3 _ ?_
  refine rgnX_take 5 (fun K4 hK4 => ?_)
  simp (disch := omega) only [go_sem]
  refine ⟨_, c_rational_Sub _ _ (by omega), ?_⟩
  refine hK4 _ ?_
  simp (disch := omega) only [go_sem]
  refine hK2 _ ?_
  clear hK4 K4 hK3 K3 hK2 K2
  refine pwx_sr 0 [] (by rfl) (fun K5 hK5 => ?_)
  simp (disch := omega) only [go_sem]
  refine hK5 _ ?_
  clear hK5 K5
  refine pwx_sd Tryz.mixed 1 [] (by rfl) [] (by kernel_rfl) (by simp) (fun K6 hK6 => ?_)
  refine rgnX_take 4 (fun K7 hK7 => ?_)
  simp (disch := omega) only [go_sem]
  refine ⟨_, c_rational_Mul _ _ (by omega), ?_⟩
  refine hK7 _ ?_
  refine rgnX_take 4 (fun K8 hK8 => ?_)
  simp (disch := omega) only [go_sem]
  refine ⟨_, c_rational_Mul _ _ (by omega), ?_⟩
  refine hK8 _ ?_
  refine rgnX_take 1 (fun K9 hK9 => ?_)
  simp (disch := omega) only [go_sem]
  refine ⟨_, c_rational_Add _ _ (by omega), ?_⟩
  refine hK9 _ ?_
  refine rgnX_take 7 (fun K10 hK10 => ?_)
  simp (disch := omega) only [go_sem]
  refine ⟨_, c_rational_Mul _ _ (by omega), ?_⟩
  refine hK10 _ ?_
  refine rgnX_take 6 (fun K11 hK11 => ?_)
  simp (disch := omega) only [go_sem]
  refine ⟨_, c_rational_Mul _ _ (by omega), ?_⟩
  refine hK11 _ ?_
  refine rgnX_take 1 (fun K12 hK12 => ?_)
  simp (disch := omega) only [go_sem]
  refine ⟨_, c_rational_Add _ _ (by omega), ?_⟩
  refine hK12 _ ?_
  refine rgnX_take 3 (fun K13 hK13 => ?_)
  simp (disch := omega) only [go_sem]
  refine ⟨_, c_rational_Mul _ _ (by omega), ?_⟩
  refine hK13 _ ?_
  refine rgnX_take 1 (fun K14 hK14 => ?_)
  simp (disch := omega) only [go_sem]
  refine ⟨_, c_rational_Add _ _ (by omega), ?_⟩
  refine hK14 _ ?_
  simp (disch := omega) only [go_sem]
  refine hK6 _ ?_
  clear hK14 K14 hK13 K13 hK12 K12 hK11 K11 hK10 K10 hK9 K9 hK8 K8 hK7 K7 hK6 K6
  refine pwx_sd Tryz.mixed 1 [] (by rfl) [] (by kernel_rfl) (by simp) (fun K15 hK15 => ?_)
  refine rgnX_take 5 (fun K16 hK16 => ?_)
  simp (disch := omega) only [go_sem]
  refine ⟨_, c_rational_Mul _ _ (by omega), ?_⟩
  refine hK16 _ ?_
  refine rgnX_take 5 (fun K17 hK17 => ?_)
  simp (disch := omega) only [go_sem]
  refine ⟨_, c_rational_Mul _ _ (by omega), ?_⟩
  refine hK17 _ ?_
  refine rgnX_take 1 (fun K18 hK18 => ?_)
  simp (disch := omega) only [go_sem]
  refine ⟨_, c_rational_Add _ _ (by omega), ?_⟩
  refine hK18 _ ?_
  simp (disch := omega) only [go_sem]
  refine hK15 _ ?_
  clear hK18 K18 hK17 K17 hK16 K16 hK15 K15
  refine pwx_sd Tryz.mixed 0 [] (by rfl) [] (by kernel_rfl) (by simp) (fun K19 hK19 => ?_)
  refine rgnX_take 4 (fun K20 hK20 => ?_)
  simp (disch := omega) only [go_sem]
  refine ⟨_, c_rational_Add _ _ (by omega), ?_⟩
  refine hK20 _ ?_
  refine rgnX_take 3 (fun K21 hK21 => ?_)
  simp (disch := omega) only [go_sem]
  refine ⟨_, c_point_coordinate _ _ _, ?_⟩
  refine hK21 _ ?_
  simp (disch := omega) only [go_sem]
  refine hK19 _ ?_
  clear hK21 K21 hK20 K20 hK19 K19
  refine pwp_ret ?_
  refine ⟨Or.inr rfl, ?_⟩
  simp (disch := omega) only [go_sem]
  all_goals rfl
set_option maxHeartbeats 4000000 in
theorem c_point_Translate (a b d e c v w : Rat) {k6 k7 k1 k2 k3 k4 k5 : Nat} [SzR a k1] [SzR b k2] [SzR d k3] [SzR e k4] [SzR c k5] [SzR v k6] [SzR w k7] (hk : k1 + k2 + k3 + k4 + k5 + k6 + k7 ≤ 400) :
    Ret Tryz.prog 32 [.a (ratC (a) ++ (ratC (b) ++ (ratC (d) ++ (ratC (e) ++ ratC (c))))), .a (ratC (v) ++ ratC (w))] (.e (.a (ratC (a + v) ++ (ratC (b) ++ (ratC (d + w) ++ (ratC (e) ++ ratC (c))))))) := by
  refine ret_of_body (md := {}) Tryz.func32 (by kernel_rfl) rfl ?_
  simp only [Tryz.f32, List.map_cons, List.map_nil, List.length_cons, List.length_nil, Nat.zero_add, Nat.reduceAdd, Nat.reduceSub, List.reduceReplicate, List.cons_append, List.nil_append]
  refine pwx_sr 3 [] (by rfl) (fun K1 hK1 => ?_)
  simp (disch := omega) only [go_sem]
  refine hK1 _ ?_
  clear hK1 K1
  refine pwx_sdH Tryz.mixed 0 [] (by rfl) [] [(2, 0), (3, 1), (5, 0), (7, 1), (10, 0), (12, 1), (15, 0), (16, 0)] (by kernel_rfl) (by kernel_rfl) (by simp) (by simp [HomeAt, St.pad]) (fun K2 hK2 => ?_)
  refine rgnX_take 5 (fun K3 hK3 => ?_)
  simp (disch := omega) only [go_sem]
  refine ⟨_, c_rational_Add _ _ (by omega), ?_⟩
  refine hK3 _ ?_
  refine rgnX_take 5 (fun K4 hK4 => ?_)
  simp (disch := omega) only [go_sem]
  refine ⟨_, c_rational_Add _ _ (by omega), ?_⟩
  refine hK4 _ ?_
  simp (disch := omega) only [go_sem]
  refine hK2 _ ?_
  clear hK4 K4 hK3 K3 hK2 K2
  refine pwx_sr 0 [] (by rfl) (fun K5 hK5 => ?_)
  simp (disch := omega) only [go_sem]
  refine hK5 _ ?_
  clear hK5 K5
  refine pwp_ret ?_
  refine ⟨Or.inr rfl, ?_⟩
  simp (disch := omega) only [go_sem]
set_option maxHeartbeats 4000000 in
theorem c_point_Rational_t (a b d e c : Rat) (hb : b = 0) (he : e = 0) :
    Ret Tryz.prog 37 [.a (ratC (a) ++ (ratC (b) ++ (ratC (d) ++ (ratC (e) ++ ratC (c)))))] (.t [.a (ratC (a) ++ ratC (d)), .c (.bool true)]) := by
  refine ret_of_body (md := {}) Tryz.func37 (by kernel_rfl) rfl ?_
  simp only [Tryz.f37, List.map_cons, List.map_nil, List.length_cons, List.length_nil, Nat.zero_add, Nat.reduceAdd, Nat.reduceSub, List.reduceReplicate, List.cons_append, List.nil_append]
  refine pwx_sr 2 [] (by rfl) (fun K1 hK1 => ?_)
  simp (disch := omega) only [go_sem]
  refine hK1 _ ?_
  clear hK1 K1
  refine pwp_seq ?_
  refine pwx_sr 0 [some 4, some 5, some 6, some 7, some 8, some 9, some 10, some 11, some 12, some 13] (by rfl) (fun K2 hK2 => ?_)
  refine rgnX_take 3 (fun K3 hK3 => ?_)
  simp (disch := omega) only [go_sem, hb, he, decide_true]
  refine ⟨_, c_rational_Sign _, ?_⟩
  refine hK3 _ ?_
  refine rgnX_take 5 (fun K4 hK4 => ?_)
  simp (disch := omega) only [go_sem, hb, he, decide_true]
  first | refine ⟨_, c_rational_Sign _, ?_⟩ | skip
  refine hK4 _ ?_
  simp (disch := omega) only [go_sem, hb, he, decide_true]
  refine hK2 _ ?_
  clear hK4 K4 hK3 K3 hK2 K2
  refine pwp_cond (b := false) (by rfl) (fun h => nomatch h) (fun _ => ?_)
  refine pwp_skip ?_
  refine n_then ?_
  refine pwx_sr 0 [] (by rfl) (fun K5 hK5 => ?_)
  simp (disch := omega) only [go_sem]
  refine hK5 _ ?_
  clear hK5 K5
  refine pwp_ret ?_
  refine ⟨Or.inr rfl, ?_⟩
  simp (disch := omega) only [go_sem]
set_option maxHeartbeats 4000000 in
theorem c_point_Rational_f (a b d e c : Rat) (hb : ¬ (b = 0 ∧ e = 0)) :
    Ret Tryz.prog 37 [.a (ratC (a) ++ (ratC (b) ++ (ratC (d) ++ (ratC (e) ++ ratC (c)))))] (.t [.a [.bool false, .sl 0 [], .bool false, .sl 0 [], .bool false, .sl 0 [], .bool false, .sl 0 []], .c (.bool false)]) := by
  refine ret_of_body (md := {}) Tryz.func37 (by kernel_rfl) rfl ?_
  simp only [Tryz.f37, List.map_cons, List.map_nil, List.length_cons, List.length_nil, Nat.zero_add, Nat.reduceAdd, Nat.reduceSub, List.reduceReplicate, List.cons_append, List.nil_append]
  refine pwx_sr 2 [] (by rfl) (fun K1 hK1 => ?_)
  simp (disch := omega) only [go_sem]
  refine hK1 _ ?_
  clear hK1 K1
  refine pwp_seq ?_
  by_cases h0 : b = 0
  · refine pwx_sr 0 [some 4, some 5, some 6, some 7, some 8, some 9, some 10, some 11, some 12, some 13] (by rfl) (fun K2 hK2 => ?_)
    refine rgnX_take 3 (fun K3 hK3 => ?_)
    simp (disch := omega) only [go_sem]
    refine ⟨_, c_rational_Sign _, ?_⟩
    refine hK3 _ ?_
    refine rgnX_take 5 (fun K4 hK4 => ?_)
    simp (disch := omega) only [go_sem]
    first | refine ⟨_, c_rational_Sign _, ?_⟩ | skip
    refine hK4 _ ?_
    simp (disch := omega) only [go_sem]
    refine hK2 _ ?_
    clear hK4 K4 hK3 K3 hK2 K2
    refine pwp_cond (b := _) (by rfl) (fun hb0 => ?_) (fun hb0 => ?_)
    · first | replace hb0 := of_decide_eq_true hb0 | replace hb0 := of_decide_eq_false hb0 | skip
      refine pwx_sr 0 [] (by rfl) (fun K5 hK5 => ?_)
      simp (disch := omega) only [go_sem]
      refine hK5 _ ?_
      clear hK5 K5
      refine pwp_ret ?_
      refine r_then ?_
      refine ⟨Or.inr rfl, ?_⟩
      simp (disch := omega) only [go_sem]
    · exfalso; simp_all
  · refine pwx_sr 0 [some 4, some 5, some 6, some 7, some 8, some 9, some 10, some 11, some 12, some 13] (by rfl) (fun K6 hK6 => ?_)
    refine rgnX_take 3 (fun K7 hK7 => ?_)
    simp (disch := omega) only [go_sem]
    refine ⟨_, c_rational_Sign _, ?_⟩
    refine hK7 _ ?_
    refine rgnX_take 5 (fun K8 hK8 => ?_)
    simp (disch := omega) only [go_sem]
    first | refine ⟨_, c_rational_Sign _, ?_⟩ | skip
    refine hK8 _ ?_
    simp (disch := omega) only [go_sem]
    refine hK6 _ ?_
    clear hK8 K8 hK7 K7 hK6 K6
    refine pwp_cond (b := true) (by rfl) (fun _ => ?_) (fun h => nomatch h)
    refine pwx_sr 0 [] (by rfl) (fun K9 hK9 => ?_)
    simp (disch := omega) only [go_sem]
    refine hK9 _ ?_
    clear hK9 K9
    refine pwp_ret ?_
    refine r_then ?_
    refine ⟨Or.inr rfl, ?_⟩
    simp (disch := omega) only [go_sem]

end Go.Proofs.YtbadkjfjdkbgfaaGreat

set_option linter.unusedSimpArgs false
set_option linter.unusedVariables false
set_option maxRecDepth 20000
namespace Go.Proofs.YtbadkjfjdkbgfaaGreat
open Go Go.PL Go.RL
set_option maxHeartbeats 4000000 in
theorem c_swarfref07_zero :
    Ret Tryz.prog 67 [] (.e (.a (ratC 0))) := by
  refine ret_of_body (md := {}) Tryz.func67 (by kernel_rfl) rfl ?_
  simp only [Tryz.f67, List.map_cons, List.map_nil, List.length_cons, List.length_nil, Nat.zero_add, Nat.reduceAdd, Nat.reduceSub, List.reduceReplicate, List.cons_append, List.nil_append]
  refine pwx_sr 1 [] (by rfl) (fun K1 hK1 => ?_)
  simp (disch := omega) only [go_sem]
  refine hK1 _ ?_
  clear hK1 K1
  refine pwx_sr 0 [] (by rfl) (fun K2 hK2 => ?_)
  refine rgnX_take 1 (fun K3 hK3 => ?_)
  simp (disch := omega) only [go_sem]
  refine ⟨_, c_swarfref02_FromInt64 _ (by omega) (by omega), ?_⟩
  refine hK3 _ ?_
  simp (disch := omega) only [go_sem]
  refine hK2 _ ?_
  clear hK3 K3 hK2 K2
  refine pwp_ret ?_
  refine ⟨Or.inr rfl, ?_⟩
  simp (disch := omega) only [go_sem]
  all_goals rfl
set_option maxHeartbeats 4000000 in
theorem c_swarfref07_coordinate (a b c : Rat) :
    Ret Tryz.prog 85 [.a (ratC a), .a (ratC b), .a (ratC c)] (.e (.a (ratC (a) ++ (ratC (b) ++ ratC (rC b c))))) := by
  refine ret_of_body (md := {}) Tryz.func85 (by kernel_rfl) rfl ?_
  simp only [Tryz.f85, List.map_cons, List.map_nil, List.length_cons, List.length_nil, Nat.zero_add, Nat.reduceAdd, Nat.reduceSub, List.reduceReplicate, List.cons_append, List.nil_append]
  refine pwx_sr 4 [] (by rfl) (fun K1 hK1 => ?_)
  simp (disch := omega) only [go_sem]
  refine hK1 _ ?_
  clear hK1 K1
  refine pwp_seq ?_
  refine pwx_sr 0 [] (by rfl) (fun K2 hK2 => ?_)
  refine rgnX_take 2 (fun K3 hK3 => ?_)
  simp (disch := omega) only [go_sem]
  refine ⟨_, c_swarfref02_Sign _, ?_⟩
  refine hK3 _ ?_
  simp (disch := omega) only [go_sem]
  refine hK2 _ ?_
  clear hK3 K3 hK2 K2
  refine pwp_cond (b := _) (by rfl) (fun hb0 => ?_) (fun hb0 => ?_)
  · first | replace hb0 := of_decide_eq_true hb0 | replace hb0 := of_decide_eq_false hb0 | skip
    refine pwx_sr 0 [] (by rfl) (fun K4 hK4 => ?_)
    refine rgnX_take 2 (fun K5 hK5 => ?_)
    simp (disch := omega) only [go_sem]
    refine ⟨_, c_swarfref03_FromRat _, ?_⟩
    refine hK5 _ ?_
    simp (disch := omega) only [go_sem]
    refine hK4 _ ?_
    clear hK5 K5 hK4 K4
    refine pwp_ret ?_
    refine r_then ?_
    refine ⟨Or.inr rfl, ?_⟩
    simp (disch := omega) only [go_sem]
    all_goals first | (have e : b = 0 := (by assumption); subst e; rw [rC_0 rfl]) | rw [rC_1 (by assumption)]
  · first | replace hb0 := of_decide_eq_true hb0 | replace hb0 := of_decide_eq_false hb0 | skip
    refine pwp_skip ?_
    refine n_then ?_
    refine pwx_sr 0 [] (by rfl) (fun K6 hK6 => ?_)
    simp (disch := omega) only [go_sem]
    refine hK6 _ ?_
    clear hK6 K6
    refine pwp_ret ?_
    refine ⟨Or.inr rfl, ?_⟩
    simp (disch := omega) only [go_sem]
    all_goals first | (have e : b = 0 := (by assumption); subst e; rw [rC_0 rfl]) | rw [rC_1 (by assumption)]
set_option maxHeartbeats 4000000 in
theorem c_swarfref07_X (a b d e c : Rat) :
    Ret Tryz.prog 46 [.a (ratC (a) ++ (ratC (b) ++ (ratC (d) ++ (ratC (e) ++ ratC (c)))))] (.e (.a (ratC (a) ++ (ratC (b) ++ ratC (rC b c))))) := by
  refine ret_of_body (md := {}) Tryz.func46 (by kernel_rfl) rfl ?_
  simp only [Tryz.f46, List.map_cons, List.map_nil, List.length_cons, List.length_nil, Nat.zero_add, Nat.reduceAdd, Nat.reduceSub, List.reduceReplicate, List.cons_append, List.nil_append]
  refine pwx_sr 2 [] (by rfl) (fun K1 hK1 => ?_)
  simp (disch := omega) only [go_sem]
  refine hK1 _ ?_
  clear hK1 K1
  refine pwx_sr 0 [] (by rfl) (fun K2 hK2 => ?_)
  refine rgnX_take 7 (fun K3 hK3 => ?_)
  simp (disch := omega) only [go_sem]
  refine ⟨_, c_swarfref07_coordinate _ _ _, ?_⟩
  refine hK3 _ ?_
  simp (disch := omega) only [go_sem]
  refine hK2 _ ?_
  clear hK3 K3 hK2 K2
  refine pwp_ret ?_
  refine ⟨Or.inr rfl, ?_⟩
  simp (disch := omega) only [go_sem]
set_option maxHeartbeats 4000000 in
theorem c_swarfref07_Y (a b d e c : Rat) :
    Ret Tryz.prog 47 [.a (ratC (a) ++ (ratC (b) ++ (ratC (d) ++ (ratC (e) ++ ratC (c)))))] (.e (.a (ratC (d) ++ (ratC (e) ++ ratC (rC e c))))) := by
  refine ret_of_body (md := {}) Tryz.func47 (by kernel_rfl) rfl ?_
  simp only [Tryz.f47, List.map_cons, List.map_nil, List.length_cons, List.length_nil, Nat.zero_add, Nat.reduceAdd, Nat.reduceSub, List.reduceReplicate, List.cons_append, List.nil_append]
  refine pwx_sr 2 [] (by rfl) (fun K1 hK1 => ?_)
  simp (disch := omega) only [go_sem]
  refine hK1 _ ?_
  clear hK1 K1
  refine pwx_sr 0 [] (by rfl) (fun K2 hK2 => ?_)
  refine rgnX_take 7 (fun K3 hK3 => ?_)
  simp (disch := omega) only [go_sem]
  refine ⟨_, c_swarfref07_coordinate _ _ _, ?_⟩
  refine hK3 _ ?_
  simp (disch := omega) only [go_sem]
  refine hK2 _ ?_
  clear hK3 K3 hK2 K2
  refine pwp_ret ?_
  refine ⟨Or.inr rfl, ?_⟩
  simp (disch := omega) only [go_sem]
set_option maxHeartbeats 4000000 in
theorem c_swarfref07_At (v w : Rat) :
    Ret Tryz.prog 28 [.a (ratC (v) ++ ratC (w))] (.e (.a (ratC (v) ++ (ratC (0) ++ (ratC (w) ++ (ratC (0) ++ ratC (0))))))) := by
  refine ret_of_body (md := {}) Tryz.func28 (by kernel_rfl) rfl ?_
  simp only [Tryz.f28, List.map_cons, List.map_nil, List.length_cons, List.length_nil, Nat.zero_add, Nat.reduceAdd, Nat.reduceSub, List.reduceReplicate, List.cons_append, List.nil_append]
  refine pwx_sr 2 [] (by rfl) (fun K1 hK1 => ?_)
  simp (disch := omega) only [go_sem]
  refine hK1 _ ?_
  clear hK1 K1
  refine pwx_sd Tryz.mixed 0 [] (by rfl) [] (by kernel_rfl) (by simp) (fun K2 hK2 => ?_)
  refine rgnX_take 3 (fun K3 hK3 => ?_)
  simp (disch := omega) only [go_sem]
  refine ⟨_, c_swarfref07_zero, ?_⟩
  refine hK3 _ ?_
  refine rgnX_take 3 (fun K4 hK4 => ?_)
  simp (disch := omega) only [go_sem]
  refine ⟨_, c_swarfref07_zero, ?_⟩
  refine hK4 _ ?_
  refine rgnX_take 1 (fun K5 hK5 => ?_)
  simp (disch := omega) only [go_sem]
  refine ⟨_, c_swarfref07_zero, ?_⟩
  refine hK5 _ ?_
  simp (disch := omega) only [go_sem]
  refine hK2 _ ?_
  clear hK5 K5 hK4 K4 hK3 K3 hK2 K2
  refine pwp_ret ?_
  refine ⟨Or.inr rfl, ?_⟩
  simp (disch := omega) only [go_sem]
set_option maxHeartbeats 4000000 in
theorem c_swarfref07_Vec (x y : Int) (hx : -9223372036854775808 ≤ x) (hx' : x < 9223372036854775808) (hy : -9223372036854775808 ≤ y) (hy' : y < 9223372036854775808) :
    Ret Tryz.prog 49 [.c (.int .i64 x), .c (.int .i64 y)] (.e (.a (ratC ((x : Rat)) ++ ratC ((y : Rat))))) := by
  refine ret_of_body (md := {}) Tryz.func49 (by kernel_rfl) rfl ?_
  simp only [Tryz.f49, List.map_cons, List.map_nil, List.length_cons, List.length_nil, Nat.zero_add, Nat.reduceAdd, Nat.reduceSub, List.reduceReplicate, List.cons_append, List.nil_append]
  refine pwx_sr 1 [] (by rfl) (fun K1 hK1 => ?_)
  simp (disch := omega) only [go_sem]
  refine hK1 _ ?_
  clear hK1 K1
  refine pwx_sr 0 [] (by rfl) (fun K2 hK2 => ?_)
  refine rgnX_take 2 (fun K3 hK3 => ?_)
  simp (disch := omega) only [go_sem]
  refine ⟨_, c_swarfref02_FromInt64 _ (by omega) (by omega), ?_⟩
  refine hK3 _ ?_
  refine rgnX_take 2 (fun K4 hK4 => ?_)
  simp (disch := omega) only [go_sem]
  refine ⟨_, c_swarfref02_FromInt64 _ (by omega) (by omega), ?_⟩
  refine hK4 _ ?_
  simp (disch := omega) only [go_sem]
  refine hK2 _ ?_
  clear hK4 K4 hK3 K3 hK2 K2
  refine pwp_ret ?_
  refine ⟨Or.inr rfl, ?_⟩
  simp (disch := omega) only [go_sem]
set_option maxHeartbeats 4000000 in
theorem c_swarfref07_OfGrid (x y : Int) (hx : -9223372036854775808 ≤ x) (hx' : x < 9223372036854775808) (hy : -9223372036854775808 ≤ y) (hy' : y < 9223372036854775808) :
    Ret Tryz.prog 36 [.a [.int .i64 x, .int .i64 y]] (.e (.a (ratC ((x : Rat)) ++ (ratC (0) ++ (ratC ((y : Rat)) ++ (ratC (0) ++ ratC (0))))))) := by
  refine ret_of_body (md := {}) Tryz.func36 (by kernel_rfl) rfl ?_
  simp only [Tryz.f36, List.map_cons, List.map_nil, List.length_cons, List.length_nil, Nat.zero_add, Nat.reduceAdd, Nat.reduceSub, List.reduceReplicate, List.cons_append, List.nil_append]
  refine pwx_sr 2 [] (by rfl) (fun K1 hK1 => ?_)
  simp (disch := omega) only [go_sem]
  refine hK1 _ ?_
  clear hK1 K1
  refine pwx_sr 0 [] (by rfl) (fun K2 hK2 => ?_)
  refine rgnX_take 5 (fun K3 hK3 => ?_)
  simp (disch := omega) only [go_sem]
  refine ⟨_, c_swarfref07_Vec _ _ (by omega) (by omega) (by omega) (by omega), ?_⟩
  refine hK3 _ ?_
  refine rgnX_take 1 (fun K4 hK4 => ?_)
  simp (disch := omega) only [go_sem]
  refine ⟨_, c_swarfref07_At _ _, ?_⟩
  refine hK4 _ ?_
  simp (disch := omega) only [go_sem]
  refine hK2 _ ?_
  clear hK4 K4 hK3 K3 hK2 K2
  refine pwp_ret ?_
  refine ⟨Or.inr rfl, ?_⟩
  simp (disch := omega) only [go_sem]
set_option maxHeartbeats 4000000 in
theorem c_swarfref07_reduced (a b d e c : Rat) :
    Ret Tryz.prog 55 [.a (ratC a), .a (ratC b), .a (ratC d), .a (ratC e), .a (ratC c)] (.e (.a (ratC (a) ++ (ratC (b) ++ (ratC (d) ++ (ratC (e) ++ ratC (pC b e c))))))) := by
  refine ret_of_body (md := {}) Tryz.func55 (by kernel_rfl) rfl ?_
  simp only [Tryz.f55, List.map_cons, List.map_nil, List.length_cons, List.length_nil, Nat.zero_add, Nat.reduceAdd, Nat.reduceSub, List.reduceReplicate, List.cons_append, List.nil_append]
  refine pwx_sr 6 [] (by rfl) (fun K1 hK1 => ?_)
  simp (disch := omega) only [go_sem]
  refine hK1 _ ?_
  clear hK1 K1
  refine pwp_seq ?_
  by_cases h0 : b = 0
  · refine pwx_sr 0 [some 11, some 12, some 13, some 14, some 15, some 16, some 17, some 18] (by rfl) (fun K2 hK2 => ?_)
    refine rgnX_take 2 (fun K3 hK3 => ?_)
    simp (disch := omega) only [go_sem]
    refine ⟨_, c_swarfref02_Sign _, ?_⟩
    refine hK3 _ ?_
    refine rgnX_take 4 (fun K4 hK4 => ?_)
    simp (disch := omega) only [go_sem]
    first | refine ⟨_, c_swarfref02_Sign _, ?_⟩ | skip
    refine hK4 _ ?_
    simp (disch := omega) only [go_sem]
    refine hK2 _ ?_
    clear hK4 K4 hK3 K3 hK2 K2
    refine pwp_cond (b := _) (by rfl) (fun hb0 => ?_) (fun hb0 => ?_)
    · first | replace hb0 := of_decide_eq_true hb0 | replace hb0 := of_decide_eq_false hb0 | skip
      refine pwx_region 0 [] (by rfl) (fun K5 hK5 => ?_)
      refine rgnX_take 1 (fun K6 hK6 => ?_)
      simp (disch := omega) only [go_sem]
      refine ⟨_, c_swarfref07_zero, ?_⟩
      refine hK6 _ ?_
      simp (disch := omega) only [go_sem]
      refine hK5 _ ?_
      clear hK6 K6 hK5 K5
      refine n_then ?_
      refine pwx_sr 0 [] (by rfl) (fun K7 hK7 => ?_)
      simp (disch := omega) only [go_sem]
      refine hK7 _ ?_
      clear hK7 K7
      refine pwp_ret ?_
      refine ⟨Or.inr rfl, ?_⟩
      simp (disch := omega) only [go_sem]
      all_goals first | rw [pC_0 (by assumption) (by assumption)] | rw [pC_1 (by assumption)] | rw [pC_2 (by assumption)]
    · first | replace hb0 := of_decide_eq_true hb0 | replace hb0 := of_decide_eq_false hb0 | skip
      refine pwp_skip ?_
      refine n_then ?_
      refine pwx_sr 0 [] (by rfl) (fun K8 hK8 => ?_)
      simp (disch := omega) only [go_sem]
      refine hK8 _ ?_
      clear hK8 K8
      refine pwp_ret ?_
      refine ⟨Or.inr rfl, ?_⟩
      simp (disch := omega) only [go_sem]
      all_goals first | rw [pC_0 (by assumption) (by assumption)] | rw [pC_1 (by assumption)] | rw [pC_2 (by assumption)]
  · refine pwx_sr 0 [some 11, some 12, some 13, some 14, some 15, some 16, some 17, some 18] (by rfl) (fun K9 hK9 => ?_)
    refine rgnX_take 2 (fun K10 hK10 => ?_)
    simp (disch := omega) only [go_sem]
    refine ⟨_, c_swarfref02_Sign _, ?_⟩
    refine hK10 _ ?_
    refine rgnX_take 4 (fun K11 hK11 => ?_)
    simp (disch := omega) only [go_sem]
    first | refine ⟨_, c_swarfref02_Sign _, ?_⟩ | skip
    refine hK11 _ ?_
    simp (disch := omega) only [go_sem]
    refine hK9 _ ?_
    clear hK11 K11 hK10 K10 hK9 K9
    refine pwp_cond (b := false) (by rfl) (fun h => nomatch h) (fun _ => ?_)
    refine pwp_skip ?_
    refine n_then ?_
    refine pwx_sr 0 [] (by rfl) (fun K12 hK12 => ?_)
    simp (disch := omega) only [go_sem]
    refine hK12 _ ?_
    clear hK12 K12
    refine pwp_ret ?_
    refine ⟨Or.inr rfl, ?_⟩
    simp (disch := omega) only [go_sem]
    all_goals first | rw [pC_0 (by assumption) (by assumption)] | rw [pC_1 (by assumption)] | rw [pC_2 (by assumption)]
set_option maxHeartbeats 4000000 in
theorem c_swarfref07_Make_t (a b c a' b' c' : Rat) {k l m k' l' m' : Nat} [SzR a k] [SzR b l] [SzR c m] [SzR a' k'] [SzR b' l'] [SzR c' m'] (hk : k + l + m + k' + l' + m' ≤ 3000) (hm : b = 0 ∨ b' = 0 ∨ c = c') :
    Ret Tryz.prog 14 [.a (ratC (a) ++ (ratC (b) ++ ratC (c))), .a (ratC (a') ++ (ratC (b') ++ ratC (c')))] (.t [.a (ratC (a) ++ (ratC (b) ++ (ratC (a') ++ (ratC (b') ++ ratC (pC b b' (rK b c c')))))), .c (.int .i64 0)]) := by
  refine ret_of_body (md := {}) Tryz.func14 (by kernel_rfl) rfl ?_
  simp only [Tryz.f14, List.map_cons, List.map_nil, List.length_cons, List.length_nil, Nat.zero_add, Nat.reduceAdd, Nat.reduceSub, List.reduceReplicate, List.cons_append, List.nil_append]
  refine pwx_sr 3 [] (by rfl) (fun K1 hK1 => ?_)
  simp (disch := omega) only [go_sem]
  refine hK1 _ ?_
  clear hK1 K1
  refine pwp_seq ?_
  rcases Classical.em (b = 0) with h0 | h0 <;> rcases Classical.em (b' = 0) with h1 | h1
  · have d0 : decide (b = 0) = true := decide_eq_true h0
    have d1 : decide (b' = 0) = true := decide_eq_true h1
    refine pwx_sr 0 [some 7, some 8, some 9, some 10, some 11, some 12, some 13, some 14, some 15, some 16, some 17, some 18, some 19, some 20, some 21, some 22, some 23, some 24] (by rfl) (fun K2 hK2 => ?_)
    refine rgnX_take 3 (fun K3 hK3 => ?_)
    simp (disch := omega) only [go_sem, d0, d1]
    refine ⟨_, c_swarfref02_Sign _, ?_⟩
    refine hK3 _ ?_
    refine rgnX_take 5 (fun K4 hK4 => ?_)
    simp (disch := omega) only [go_sem, d0, d1]
    first | refine ⟨_, c_swarfref02_Sign _, ?_⟩ | skip
    refine hK4 _ ?_
    refine rgnX_take 8 (fun K5 hK5 => ?_)
    simp (disch := omega) only [go_sem, d0, d1]
    first | refine ⟨_, c_swarfref02_Cmp _ _ (by omega), ?_⟩ | skip
    refine hK5 _ ?_
    simp (disch := omega) only [go_sem, d0, d1]
    refine hK2 _ ?_
    clear hK5 K5 hK4 K4 hK3 K3 hK2 K2
    refine pwp_cond (b := false) (by rfl) (fun h => nomatch h) (fun _ => ?_)
    refine pwp_skip ?_
    refine n_then ?_
    refine pwx_sr 1 [] (by rfl) (fun K6 hK6 => ?_)
    simp (disch := omega) only [go_sem]
    refine hK6 _ ?_
    clear hK6 K6
    refine pwp_seq ?_
    refine pwx_sr 0 [] (by rfl) (fun K7 hK7 => ?_)
    refine rgnX_take 3 (fun K8 hK8 => ?_)
    simp (disch := omega) only [go_sem]
    refine ⟨_, c_swarfref02_Sign _, ?_⟩
    refine hK8 _ ?_
    simp (disch := omega) only [go_sem]
    refine hK7 _ ?_
    clear hK8 K8 hK7 K7
    refine pwp_cond (b := _) (by rfl) (fun hb1 => ?_) (fun hb1 => ?_)
    · first | replace hb1 := of_decide_eq_true hb1 | replace hb1 := of_decide_eq_false hb1 | skip
      refine pwx_region 0 [] (by rfl) (fun K9 hK9 => ?_)
      simp (disch := omega) only [go_sem]
      refine hK9 _ ?_
      clear hK9 K9
      refine n_then ?_
      refine pwx_sr 0 [] (by rfl) (fun K10 hK10 => ?_)
      refine rgnX_take 10 (fun K11 hK11 => ?_)
      simp (disch := omega) only [go_sem]
      refine ⟨_, c_swarfref07_reduced _ _ _ _ _, ?_⟩
      refine hK11 _ ?_
      simp (disch := omega) only [go_sem]
      refine hK10 _ ?_
      clear hK11 K11 hK10 K10
      refine pwp_ret ?_
      refine ⟨Or.inr rfl, ?_⟩
      simp (disch := omega) only [go_sem]
      all_goals first | (exfalso; simp_all; done) | rw [rK_0 (by assumption)] | rw [rK_1 (by assumption)]
    · first | replace hb1 := of_decide_eq_true hb1 | replace hb1 := of_decide_eq_false hb1 | skip
      refine pwp_skip ?_
      refine n_then ?_
      refine pwx_sr 0 [] (by rfl) (fun K12 hK12 => ?_)
      refine rgnX_take 10 (fun K13 hK13 => ?_)
      simp (disch := omega) only [go_sem]
      refine ⟨_, c_swarfref07_reduced _ _ _ _ _, ?_⟩
      refine hK13 _ ?_
      simp (disch := omega) only [go_sem]
      refine hK12 _ ?_
      clear hK13 K13 hK12 K12
      refine pwp_ret ?_
      refine ⟨Or.inr rfl, ?_⟩
      simp (disch := omega) only [go_sem]
      all_goals first | (exfalso; simp_all; done) | rw [rK_0 (by assumption)] | rw [rK_1 (by assumption)]
  · have d0 : decide (b = 0) = true := decide_eq_true h0
    have d1 : decide (b' = 0) = false := decide_eq_false h1
    refine pwx_sr 0 [some 7, some 8, some 9, some 10, some 11, some 12, some 13, some 14, some 15, some 16, some 17, some 18, some 19, some 20, some 21, some 22, some 23, some 24] (by rfl) (fun K14 hK14 => ?_)
    refine rgnX_take 3 (fun K15 hK15 => ?_)
    simp (disch := omega) only [go_sem, d0, d1]
    refine ⟨_, c_swarfref02_Sign _, ?_⟩
    refine hK15 _ ?_
    refine rgnX_take 5 (fun K16 hK16 => ?_)
    simp (disch := omega) only [go_sem, d0, d1]
    first | refine ⟨_, c_swarfref02_Sign _, ?_⟩ | skip
    refine hK16 _ ?_
    refine rgnX_take 8 (fun K17 hK17 => ?_)
    simp (disch := omega) only [go_sem, d0, d1]
    first | refine ⟨_, c_swarfref02_Cmp _ _ (by omega), ?_⟩ | skip
    refine hK17 _ ?_
    simp (disch := omega) only [go_sem, d0, d1]
    refine hK14 _ ?_
    clear hK17 K17 hK16 K16 hK15 K15 hK14 K14
    refine pwp_cond (b := false) (by rfl) (fun h => nomatch h) (fun _ => ?_)
    refine pwp_skip ?_
    refine n_then ?_
    refine pwx_sr 1 [] (by rfl) (fun K18 hK18 => ?_)
    simp (disch := omega) only [go_sem]
    refine hK18 _ ?_
    clear hK18 K18
    refine pwp_seq ?_
    refine pwx_sr 0 [] (by rfl) (fun K19 hK19 => ?_)
    refine rgnX_take 3 (fun K20 hK20 => ?_)
    simp (disch := omega) only [go_sem]
    refine ⟨_, c_swarfref02_Sign _, ?_⟩
    refine hK20 _ ?_
    simp (disch := omega) only [go_sem]
    refine hK19 _ ?_
    clear hK20 K20 hK19 K19
    refine pwp_cond (b := _) (by rfl) (fun hb3 => ?_) (fun hb3 => ?_)
    · first | replace hb3 := of_decide_eq_true hb3 | replace hb3 := of_decide_eq_false hb3 | skip
      refine pwx_region 0 [] (by rfl) (fun K21 hK21 => ?_)
      simp (disch := omega) only [go_sem]
      refine hK21 _ ?_
      clear hK21 K21
      refine n_then ?_
      refine pwx_sr 0 [] (by rfl) (fun K22 hK22 => ?_)
      refine rgnX_take 10 (fun K23 hK23 => ?_)
      simp (disch := omega) only [go_sem]
      refine ⟨_, c_swarfref07_reduced _ _ _ _ _, ?_⟩
      refine hK23 _ ?_
      simp (disch := omega) only [go_sem]
      refine hK22 _ ?_
      clear hK23 K23 hK22 K22
      refine pwp_ret ?_
      refine ⟨Or.inr rfl, ?_⟩
      simp (disch := omega) only [go_sem]
      all_goals first | (exfalso; simp_all; done) | rw [rK_0 (by assumption)] | rw [rK_1 (by assumption)]
    · first | replace hb3 := of_decide_eq_true hb3 | replace hb3 := of_decide_eq_false hb3 | skip
      refine pwp_skip ?_
      refine n_then ?_
      refine pwx_sr 0 [] (by rfl) (fun K24 hK24 => ?_)
      refine rgnX_take 10 (fun K25 hK25 => ?_)
      simp (disch := omega) only [go_sem]
      refine ⟨_, c_swarfref07_reduced _ _ _ _ _, ?_⟩
      refine hK25 _ ?_
      simp (disch := omega) only [go_sem]
      refine hK24 _ ?_
      clear hK25 K25 hK24 K24
      refine pwp_ret ?_
      refine ⟨Or.inr rfl, ?_⟩
      simp (disch := omega) only [go_sem]
      all_goals first | (exfalso; simp_all; done) | rw [rK_0 (by assumption)] | rw [rK_1 (by assumption)]
  · have d0 : decide (b = 0) = false := decide_eq_false h0
    have d1 : decide (b' = 0) = true := decide_eq_true h1
    refine pwx_sr 0 [some 7, some 8, some 9, some 10, some 11, some 12, some 13, some 14, some 15, some 16, some 17, some 18, some 19, some 20, some 21, some 22, some 23, some 24] (by rfl) (fun K26 hK26 => ?_)
    refine rgnX_take 3 (fun K27 hK27 => ?_)
    simp (disch := omega) only [go_sem, d0, d1]
    refine ⟨_, c_swarfref02_Sign _, ?_⟩
    refine hK27 _ ?_
    refine rgnX_take 5 (fun K28 hK28 => ?_)
    simp (disch := omega) only [go_sem, d0, d1]
    first | refine ⟨_, c_swarfref02_Sign _, ?_⟩ | skip
    refine hK28 _ ?_
    refine rgnX_take 8 (fun K29 hK29 => ?_)
    simp (disch := omega) only [go_sem, d0, d1]
    first | refine ⟨_, c_swarfref02_Cmp _ _ (by omega), ?_⟩ | skip
    refine hK29 _ ?_
    simp (disch := omega) only [go_sem, d0, d1]
    refine hK26 _ ?_
    clear hK29 K29 hK28 K28 hK27 K27 hK26 K26
    refine pwp_cond (b := false) (by rfl) (fun h => nomatch h) (fun _ => ?_)
    refine pwp_skip ?_
    refine n_then ?_
    refine pwx_sr 1 [] (by rfl) (fun K30 hK30 => ?_)
    simp (disch := omega) only [go_sem]
    refine hK30 _ ?_
    clear hK30 K30
    refine pwp_seq ?_
    refine pwx_sr 0 [] (by rfl) (fun K31 hK31 => ?_)
    refine rgnX_take 3 (fun K32 hK32 => ?_)
    simp (disch := omega) only [go_sem]
    refine ⟨_, c_swarfref02_Sign _, ?_⟩
    refine hK32 _ ?_
    simp (disch := omega) only [go_sem]
    refine hK31 _ ?_
    clear hK32 K32 hK31 K31
    refine pwp_cond (b := _) (by rfl) (fun hb5 => ?_) (fun hb5 => ?_)
    · first | replace hb5 := of_decide_eq_true hb5 | replace hb5 := of_decide_eq_false hb5 | skip
      refine pwx_region 0 [] (by rfl) (fun K33 hK33 => ?_)
      simp (disch := omega) only [go_sem]
      refine hK33 _ ?_
      clear hK33 K33
      refine n_then ?_
      refine pwx_sr 0 [] (by rfl) (fun K34 hK34 => ?_)
      refine rgnX_take 10 (fun K35 hK35 => ?_)
      simp (disch := omega) only [go_sem]
      refine ⟨_, c_swarfref07_reduced _ _ _ _ _, ?_⟩
      refine hK35 _ ?_
      simp (disch := omega) only [go_sem]
      refine hK34 _ ?_
      clear hK35 K35 hK34 K34
      refine pwp_ret ?_
      refine ⟨Or.inr rfl, ?_⟩
      simp (disch := omega) only [go_sem]
      all_goals first | (exfalso; simp_all; done) | rw [rK_0 (by assumption)] | rw [rK_1 (by assumption)]
    · first | replace hb5 := of_decide_eq_true hb5 | replace hb5 := of_decide_eq_false hb5 | skip
      refine pwp_skip ?_
      refine n_then ?_
      refine pwx_sr 0 [] (by rfl) (fun K36 hK36 => ?_)
      refine rgnX_take 10 (fun K37 hK37 => ?_)
      simp (disch := omega) only [go_sem]
      refine ⟨_, c_swarfref07_reduced _ _ _ _ _, ?_⟩
      refine hK37 _ ?_
      simp (disch := omega) only [go_sem]
      refine hK36 _ ?_
      clear hK37 K37 hK36 K36
      refine pwp_ret ?_
      refine ⟨Or.inr rfl, ?_⟩
      simp (disch := omega) only [go_sem]
      all_goals first | (exfalso; simp_all; done) | rw [rK_0 (by assumption)] | rw [rK_1 (by assumption)]
  · have d0 : decide (b = 0) = false := decide_eq_false h0
    have d1 : decide (b' = 0) = false := decide_eq_false h1
    refine pwx_sr 0 [some 7, some 8, some 9, some 10, some 11, some 12, some 13, some 14, some 15, some 16, some 17, some 18, some 19, some 20, some 21, some 22, some 23, some 24] (by rfl) (fun K38 hK38 => ?_)
    refine rgnX_take 3 (fun K39 hK39 => ?_)
    simp (disch := omega) only [go_sem, d0, d1]
    refine ⟨_, c_swarfref02_Sign _, ?_⟩
    refine hK39 _ ?_
    refine rgnX_take 5 (fun K40 hK40 => ?_)
    simp (disch := omega) only [go_sem, d0, d1]
    first | refine ⟨_, c_swarfref02_Sign _, ?_⟩ | skip
    refine hK40 _ ?_
    refine rgnX_take 8 (fun K41 hK41 => ?_)
    simp (disch := omega) only [go_sem, d0, d1]
    first | refine ⟨_, c_swarfref02_Cmp _ _ (by omega), ?_⟩ | skip
    refine hK41 _ ?_
    simp (disch := omega) only [go_sem, d0, d1]
    refine hK38 _ ?_
    clear hK41 K41 hK40 K40 hK39 K39 hK38 K38
    refine pwp_cond (b := _) (by rfl) (fun hb6 => ?_) (fun hb6 => ?_)
    · exfalso; simp_all
    · first | replace hb6 := of_decide_eq_true hb6 | replace hb6 := of_decide_eq_false hb6 | skip
      refine pwp_skip ?_
      refine n_then ?_
      refine pwx_sr 1 [] (by rfl) (fun K42 hK42 => ?_)
      simp (disch := omega) only [go_sem]
      refine hK42 _ ?_
      clear hK42 K42
      refine pwp_seq ?_
      refine pwx_sr 0 [] (by rfl) (fun K43 hK43 => ?_)
      refine rgnX_take 3 (fun K44 hK44 => ?_)
      simp (disch := omega) only [go_sem]
      refine ⟨_, c_swarfref02_Sign _, ?_⟩
      refine hK44 _ ?_
      simp (disch := omega) only [go_sem]
      refine hK43 _ ?_
      clear hK44 K44 hK43 K43
      refine pwp_cond (b := _) (by rfl) (fun hb7 => ?_) (fun hb7 => ?_)
      · first | replace hb7 := of_decide_eq_true hb7 | replace hb7 := of_decide_eq_false hb7 | skip
        refine pwx_region 0 [] (by rfl) (fun K45 hK45 => ?_)
        simp (disch := omega) only [go_sem]
        refine hK45 _ ?_
        clear hK45 K45
        refine n_then ?_
        refine pwx_sr 0 [] (by rfl) (fun K46 hK46 => ?_)
        refine rgnX_take 10 (fun K47 hK47 => ?_)
        simp (disch := omega) only [go_sem]
        refine ⟨_, c_swarfref07_reduced _ _ _ _ _, ?_⟩
        refine hK47 _ ?_
        simp (disch := omega) only [go_sem]
        refine hK46 _ ?_
        clear hK47 K47 hK46 K46
        refine pwp_ret ?_
        refine ⟨Or.inr rfl, ?_⟩
        simp (disch := omega) only [go_sem]
        all_goals first | (exfalso; simp_all; done) | rw [rK_0 (by assumption)] | rw [rK_1 (by assumption)]
      · first | replace hb7 := of_decide_eq_true hb7 | replace hb7 := of_decide_eq_false hb7 | skip
        refine pwp_skip ?_
        refine n_then ?_
        refine pwx_sr 0 [] (by rfl) (fun K48 hK48 => ?_)
        refine rgnX_take 10 (fun K49 hK49 => ?_)
        simp (disch := omega) only [go_sem]
        refine ⟨_, c_swarfref07_reduced _ _ _ _ _, ?_⟩
        refine hK49 _ ?_
        simp (disch := omega) only [go_sem]
        refine hK48 _ ?_
        clear hK49 K49 hK48 K48
        refine pwp_ret ?_
        refine ⟨Or.inr rfl, ?_⟩
        simp (disch := omega) only [go_sem]
        all_goals first | (exfalso; simp_all; done) | rw [rK_0 (by assumption)] | rw [rK_1 (by assumption)]
set_option maxHeartbeats 4000000 in
theorem c_swarfref07_Make_f (a b c a' b' c' : Rat) {k l m k' l' m' : Nat} [SzR a k] [SzR b l] [SzR c m] [SzR a' k'] [SzR b' l'] [SzR c' m'] (hk : k + l + m + k' + l' + m' ≤ 3000) (hm : ¬ (b = 0 ∨ b' = 0 ∨ c = c')) :
    Ret Tryz.prog 14 [.a (ratC (a) ++ (ratC (b) ++ ratC (c))), .a (ratC (a') ++ (ratC (b') ++ ratC (c')))] (.t [.a [.bool false, .sl 0 [], .bool false, .sl 0 [], .bool false, .sl 0 [], .bool false, .sl 0 [], .bool false, .sl 0 [], .bool false, .sl 0 [], .bool false, .sl 0 [], .bool false, .sl 0 [], .bool false, .sl 0 [], .bool false, .sl 0 []], .c (.int .i64 1)]) := by
  refine ret_of_body (md := {}) Tryz.func14 (by kernel_rfl) rfl ?_
  simp only [Tryz.f14, List.map_cons, List.map_nil, List.length_cons, List.length_nil, Nat.zero_add, Nat.reduceAdd, Nat.reduceSub, List.reduceReplicate, List.cons_append, List.nil_append]
  simp only [not_or] at hm
  obtain ⟨m1, m2, m3⟩ := hm
  refine pwx_sr 3 [] (by rfl) (fun K1 hK1 => ?_)
  simp (disch := omega) only [go_sem]
  refine hK1 _ ?_
  clear hK1 K1
  refine pwp_seq ?_
  refine pwx_sr 0 [some 7, some 8, some 9, some 10, some 11, some 12, some 13, some 14, some 15, some 16, some 17, some 18, some 19, some 20, some 21, some 22, some 23, some 24] (by rfl) (fun K2 hK2 => ?_)
  refine rgnX_take 3 (fun K3 hK3 => ?_)
  simp (disch := omega) only [go_sem, m1, m2, m3, decide_false]
  refine ⟨_, c_swarfref02_Sign _, ?_⟩
  refine hK3 _ ?_
  refine rgnX_take 5 (fun K4 hK4 => ?_)
  simp (disch := omega) only [go_sem, m1, m2, m3, decide_false]
  first | refine ⟨_, c_swarfref02_Sign _, ?_⟩ | skip
  refine hK4 _ ?_
  refine rgnX_take 8 (fun K5 hK5 => ?_)
  simp (disch := omega) only [go_sem, m1, m2, m3, decide_false]
  first | refine ⟨_, c_swarfref02_Cmp _ _ (by omega), ?_⟩ | skip
  refine hK5 _ ?_
  simp (disch := omega) only [go_sem, m1, m2, m3, decide_false]
  refine hK2 _ ?_
  clear hK5 K5 hK4 K4 hK3 K3 hK2 K2
  refine pwp_cond (b := true) (by rfl) (fun _ => ?_) (fun h => nomatch h)
  refine pwx_sr 0 [] (by rfl) (fun K6 hK6 => ?_)
  simp (disch := omega) only [go_sem]
  refine hK6 _ ?_
  clear hK6 K6
  refine pwp_ret ?_
  refine r_then ?_
  refine ⟨Or.inr rfl, ?_⟩
  simp (disch := omega) only [go_sem]
set_option maxHeartbeats 4000000 in
theorem c_swarfref07_Compare (a b d e c : Rat) {k1 k2 k3 k4 k5 : Nat} [SzR a k1] [SzR b k2] [SzR d k3] [SzR e k4] [SzR c k5] (a' b' d' e' c' : Rat) {l1 l2 l3 l4 l5 : Nat} [SzR a' l1] [SzR b' l2] [SzR d' l3] [SzR e' l4] [SzR c' l5] (hk : k1 + k2 + k3 + k4 + k5 + l1 + l2 + l3 + l4 + l5 ≤ 900) :
    Ret Tryz.prog 21 [.a (ratC (a) ++ (ratC (b) ++ (ratC (d) ++ (ratC (e) ++ ratC (c))))), .a (ratC (a') ++ (ratC (b') ++ (ratC (d') ++ (ratC (e') ++ ratC (c')))))] (.e (.c (.int .i64 (cmpP a b d e c a' b' d' e' c')))) := by
  refine ret_of_body (md := {}) Tryz.func21 (by kernel_rfl) rfl ?_
  simp only [Tryz.f21, List.map_cons, List.map_nil, List.length_cons, List.length_nil, Nat.zero_add, Nat.reduceAdd, Nat.reduceSub, List.reduceReplicate, List.cons_append, List.nil_append]
  refine pwx_sr 2 [] (by rfl) (fun K1 hK1 => ?_)
  simp (disch := omega) only [go_sem]
  refine hK1 _ ?_
  clear hK1 K1
  refine pwp_seq ?_
  refine pwx_sd Tryz.mixed 0 [] (by rfl) [] (by kernel_rfl) (by simp) (fun K2 hK2 => ?_)
  refine rgnX_take 2 (fun K3 hK3 => ?_)
  simp (disch := omega) only [go_sem]
  refine ⟨_, c_swarfref07_X _ _ _ _ _, ?_⟩
  refine hK3 _ ?_
  refine rgnX_take 2 (fun K4 hK4 => ?_)
  simp (disch := omega) only [go_sem]
  refine ⟨_, c_swarfref07_X _ _ _ _ _, ?_⟩
  refine hK4 _ ?_
  refine rgnX_take 1 (fun K5 hK5 => ?_)
  simp (disch := omega) only [go_sem]
  refine ⟨_, c_swarfref05_Cmp _ _ _ _ _ _ (by omega), ?_⟩
  refine hK5 _ ?_
  simp (disch := omega) only [go_sem]
  refine hK2 _ ?_
  clear hK5 K5 hK4 K4 hK3 K3 hK2 K2
  refine pwx_sr 0 [] (by rfl) (fun K6 hK6 => ?_)
  simp (disch := omega) only [go_sem]
  refine hK6 _ ?_
  clear hK6 K6
  refine pwp_cond (b := _) (by rfl) (fun hb0 => ?_) (fun hb0 => ?_)
  · have hz := nzi_t hb0
    refine pwx_sr 0 [] (by rfl) (fun K7 hK7 => ?_)
    simp (disch := omega) only [go_sem]
    refine hK7 _ ?_
    clear hK7 K7
    refine pwp_ret ?_
    refine r_then ?_
    refine ⟨Or.inr rfl, ?_⟩
    simp (disch := omega) only [go_sem]
    all_goals first | rw [cmpP_0 hz] | rw [cmpP_1 hz]
  · have hz := nzi_f hb0
    refine pwp_skip ?_
    refine n_then ?_
    refine pwx_sd Tryz.mixed 0 [] (by rfl) [] (by kernel_rfl) (by simp) (fun K8 hK8 => ?_)
    refine rgnX_take 2 (fun K9 hK9 => ?_)
    simp (disch := omega) only [go_sem]
    refine ⟨_, c_swarfref07_Y _ _ _ _ _, ?_⟩
    refine hK9 _ ?_
    refine rgnX_take 2 (fun K10 hK10 => ?_)
    simp (disch := omega) only [go_sem]
    refine ⟨_, c_swarfref07_Y _ _ _ _ _, ?_⟩
    refine hK10 _ ?_
    refine rgnX_take 1 (fun K11 hK11 => ?_)
    simp (disch := omega) only [go_sem]
    refine ⟨_, c_swarfref05_Cmp _ _ _ _ _ _ (by omega), ?_⟩
    refine hK11 _ ?_
    simp (disch := omega) only [go_sem]
    refine hK8 _ ?_
    clear hK11 K11 hK10 K10 hK9 K9 hK8 K8
    refine pwp_ret ?_
    refine ⟨Or.inr rfl, ?_⟩
    simp (disch := omega) only [go_sem]
    all_goals first | rw [cmpP_0 hz] | rw [cmpP_1 hz]
set_option maxHeartbeats 4000000 in
theorem c_swarfref07_Equal (a b d e c : Rat) {k1 k2 k3 k4 k5 : Nat} [SzR a k1] [SzR b k2] [SzR d k3] [SzR e k4] [SzR c k5] (a' b' d' e' c' : Rat) {l1 l2 l3 l4 l5 : Nat} [SzR a' l1] [SzR b' l2] [SzR d' l3] [SzR e' l4] [SzR c' l5] (hk : k1 + k2 + k3 + k4 + k5 + l1 + l2 + l3 + l4 + l5 ≤ 900) :
    Ret Tryz.prog 27 [.a (ratC (a) ++ (ratC (b) ++ (ratC (d) ++ (ratC (e) ++ ratC (c))))), .a (ratC (a') ++ (ratC (b') ++ (ratC (d') ++ (ratC (e') ++ ratC (c')))))] (.e (.c (.bool (decide (cmpP a b d e c a' b' d' e' c' = 0))))) := by
  refine ret_of_body (md := {}) Tryz.func27 (by kernel_rfl) rfl ?_
  simp only [Tryz.f27, List.map_cons, List.map_nil, List.length_cons, List.length_nil, Nat.zero_add, Nat.reduceAdd, Nat.reduceSub, List.reduceReplicate, List.cons_append, List.nil_append]
  refine pwx_sr 2 [] (by rfl) (fun K1 hK1 => ?_)
  simp (disch := omega) only [go_sem]
  refine hK1 _ ?_
  clear hK1 K1
  refine pwx_sr 0 [] (by rfl) (fun K2 hK2 => ?_)
  refine rgnX_take 3 (fun K3 hK3 => ?_)
  simp (disch := omega) only [go_sem]
  refine ⟨_, c_swarfref07_Compare _ _ _ _ _ _ _ _ _ _ (by omega), ?_⟩
  refine hK3 _ ?_
  simp (disch := omega) only [go_sem]
  refine hK2 _ ?_
  clear hK3 K3 hK2 K2
  refine pwp_ret ?_
  refine ⟨Or.inr rfl, ?_⟩
  simp (disch := omega) only [go_sem]
set_option maxHeartbeats 4000000 in
theorem c_swarfref07_Translate (a b d e c v w : Rat) {k6 k7 k1 k2 k3 k4 k5 : Nat} [SzR a k1] [SzR b k2] [SzR d k3] [SzR e k4] [SzR c k5] [SzR v k6] [SzR w k7] (hk : k1 + k2 + k3 + k4 + k5 + k6 + k7 ≤ 400) :
    Ret Tryz.prog 30 [.a (ratC (a) ++ (ratC (b) ++ (ratC (d) ++ (ratC (e) ++ ratC (c))))), .a (ratC (v) ++ ratC (w))] (.e (.a (ratC (a + v) ++ (ratC (b) ++ (ratC (d + w) ++ (ratC (e) ++ ratC (c))))))) := by
  refine ret_of_body (md := {}) Tryz.func30 (by kernel_rfl) rfl ?_
  simp only [Tryz.f30, List.map_cons, List.map_nil, List.length_cons, List.length_nil, Nat.zero_add, Nat.reduceAdd, Nat.reduceSub, List.reduceReplicate, List.cons_append, List.nil_append]
  refine pwx_sr 3 [] (by rfl) (fun K1 hK1 => ?_)
  simp (disch := omega) only [go_sem]
  refine hK1 _ ?_
  clear hK1 K1
  refine pwx_sd Tryz.mixed 0 [] (by rfl) [] (by kernel_rfl) (by simp) (fun K2 hK2 => ?_)
  refine rgnX_take 5 (fun K3 hK3 => ?_)
  simp (disch := omega) only [go_sem]
  refine ⟨_, c_swarfref02_Add _ _ (by omega), ?_⟩
  refine hK3 _ ?_
  refine rgnX_take 7 (fun K4 hK4 => ?_)
  simp (disch := omega) only [go_sem]
  refine ⟨_, c_swarfref02_Add _ _ (by omega), ?_⟩
  refine hK4 _ ?_
  simp (disch := omega) only [go_sem]
  refine hK2 _ ?_
  clear hK4 K4 hK3 K3 hK2 K2
  refine pwp_ret ?_
  refine ⟨Or.inr rfl, ?_⟩
  simp (disch := omega) only [go_sem]
set_option maxHeartbeats 4000000 in
theorem c_swarfref07_Back (v w : Rat) {k l : Nat} [SzR v k] [SzR w l] (hk : k + l ≤ 4000) :
    Ret Tryz.prog 33 [.a (ratC (v) ++ ratC (w))] (.e (.a (ratC (-v) ++ ratC (-w)))) := by
  refine ret_of_body (md := {}) Tryz.func33 (by kernel_rfl) rfl ?_
  simp only [Tryz.f33, List.map_cons, List.map_nil, List.length_cons, List.length_nil, Nat.zero_add, Nat.reduceAdd, Nat.reduceSub, List.reduceReplicate, List.cons_append, List.nil_append]
  refine pwx_sr 2 [] (by rfl) (fun K1 hK1 => ?_)
  simp (disch := omega) only [go_sem]
  refine hK1 _ ?_
  clear hK1 K1
  refine pwx_sd Tryz.mixed 0 [] (by rfl) [] (by kernel_rfl) (by simp) (fun K2 hK2 => ?_)
  refine rgnX_take 3 (fun K3 hK3 => ?_)
  simp (disch := omega) only [go_sem]
  refine ⟨_, c_swarfref02_Neg _ (by omega), ?_⟩
  refine hK3 _ ?_
  refine rgnX_take 3 (fun K4 hK4 => ?_)
  simp (disch := omega) only [go_sem]
  refine ⟨_, c_swarfref02_Neg _ (by omega), ?_⟩
  refine hK4 _ ?_
  simp (disch := omega) only [go_sem]
  refine hK2 _ ?_
  clear hK4 K4 hK3 K3 hK2 K2
  refine pwp_ret ?_
  refine ⟨Or.inr rfl, ?_⟩
  simp (disch := omega) only [go_sem]
set_option maxHeartbeats 4000000 in
theorem c_swarfref07_Rational_t (a b d e c : Rat) (hb : b = 0) (he : e = 0) :
    Ret Tryz.prog 38 [.a (ratC (a) ++ (ratC (b) ++ (ratC (d) ++ (ratC (e) ++ ratC (c)))))] (.t [.a (ratC (a) ++ ratC (d)), .c (.bool true)]) := by
  refine ret_of_body (md := {}) Tryz.func38 (by kernel_rfl) rfl ?_
  simp only [Tryz.f38, List.map_cons, List.map_nil, List.length_cons, List.length_nil, Nat.zero_add, Nat.reduceAdd, Nat.reduceSub, List.reduceReplicate, List.cons_append, List.nil_append]
  refine pwx_sr 2 [] (by rfl) (fun K1 hK1 => ?_)
  simp (disch := omega) only [go_sem]
  refine hK1 _ ?_
  clear hK1 K1
  refine pwp_seq ?_
  refine pwx_sr 0 [some 4, some 5, some 6, some 7, some 8, some 9, some 10, some 11, some 12, some 13] (by rfl) (fun K2 hK2 => ?_)
  refine rgnX_take 3 (fun K3 hK3 => ?_)
  simp (disch := omega) only [go_sem, hb, he, decide_true]
  refine ⟨_, c_swarfref02_Sign _, ?_⟩
  refine hK3 _ ?_
  refine rgnX_take 5 (fun K4 hK4 => ?_)
  simp (disch := omega) only [go_sem, hb, he, decide_true]
  first | refine ⟨_, c_swarfref02_Sign _, ?_⟩ | skip
  refine hK4 _ ?_
  simp (disch := omega) only [go_sem, hb, he, decide_true]
  refine hK2 _ ?_
  clear hK4 K4 hK3 K3 hK2 K2
  refine pwp_cond (b := false) (by rfl) (fun h => nomatch h) (fun _ => ?_)
  refine pwp_skip ?_
  refine n_then ?_
  refine pwx_sr 0 [] (by rfl) (fun K5 hK5 => ?_)
  simp (disch := omega) only [go_sem]
  refine hK5 _ ?_
  clear hK5 K5
  refine pwp_ret ?_
  refine ⟨Or.inr rfl, ?_⟩
  simp (disch := omega) only [go_sem]
set_option maxHeartbeats 4000000 in
theorem c_swarfref07_Rational_f (a b d e c : Rat) (hb : ¬ (b = 0 ∧ e = 0)) :
    Ret Tryz.prog 38 [.a (ratC (a) ++ (ratC (b) ++ (ratC (d) ++ (ratC (e) ++ ratC (c)))))] (.t [.a [.bool false, .sl 0 [], .bool false, .sl 0 [], .bool false, .sl 0 [], .bool false, .sl 0 []], .c (.bool false)]) := by
  refine ret_of_body (md := {}) Tryz.func38 (by kernel_rfl) rfl ?_
  simp only [Tryz.f38, List.map_cons, List.map_nil, List.length_cons, List.length_nil, Nat.zero_add, Nat.reduceAdd, Nat.reduceSub, List.reduceReplicate, List.cons_append, List.nil_append]
  refine pwx_sr 2 [] (by rfl) (fun K1 hK1 => ?_)
  simp (disch := omega) only [go_sem]
  refine hK1 _ ?_
  clear hK1 K1
  refine pwp_seq ?_
  by_cases h0 : b = 0
  · refine pwx_sr 0 [some 4, some 5, some 6, some 7, some 8, some 9, some 10, some 11, some 12, some 13] (by rfl) (fun K2 hK2 => ?_)
    refine rgnX_take 3 (fun K3 hK3 => ?_)
    simp (disch := omega) only [go_sem]
    refine ⟨_, c_swarfref02_Sign _, ?_⟩
    refine hK3 _ ?_
    refine rgnX_take 5 (fun K4 hK4 => ?_)
    simp (disch := omega) only [go_sem]
    first | refine ⟨_, c_swarfref02_Sign _, ?_⟩ | skip
    refine hK4 _ ?_
    simp (disch := omega) only [go_sem]
    refine hK2 _ ?_
    clear hK4 K4 hK3 K3 hK2 K2
    refine pwp_cond (b := _) (by rfl) (fun hb0 => ?_) (fun hb0 => ?_)
    · first | replace hb0 := of_decide_eq_true hb0 | replace hb0 := of_decide_eq_false hb0 | skip
      refine pwx_sr 0 [] (by rfl) (fun K5 hK5 => ?_)
      simp (disch := omega) only [go_sem]
      refine hK5 _ ?_
      clear hK5 K5
      refine pwp_ret ?_
      refine r_then ?_
      refine ⟨Or.inr rfl, ?_⟩
      simp (disch := omega) only [go_sem]
    · exfalso; simp_all
  · refine pwx_sr 0 [some 4, some 5, some 6, some 7, some 8, some 9, some 10, some 11, some 12, some 13] (by rfl) (fun K6 hK6 => ?_)
    refine rgnX_take 3 (fun K7 hK7 => ?_)
    simp (disch := omega) only [go_sem]
    refine ⟨_, c_swarfref02_Sign _, ?_⟩
    refine hK7 _ ?_
    refine rgnX_take 5 (fun K8 hK8 => ?_)
    simp (disch := omega) only [go_sem]
    first | refine ⟨_, c_swarfref02_Sign _, ?_⟩ | skip
    refine hK8 _ ?_
    simp (disch := omega) only [go_sem]
    refine hK6 _ ?_
    clear hK8 K8 hK7 K7 hK6 K6
    refine pwp_cond (b := true) (by rfl) (fun _ => ?_) (fun h => nomatch h)
    refine pwx_sr 0 [] (by rfl) (fun K9 hK9 => ?_)
    simp (disch := omega) only [go_sem]
    refine hK9 _ ?_
    clear hK9 K9
    refine pwp_ret ?_
    refine r_then ?_
    refine ⟨Or.inr rfl, ?_⟩
    simp (disch := omega) only [go_sem]

end Go.Proofs.YtbadkjfjdkbgfaaGreat

set_option linter.unusedSimpArgs false
set_option linter.unusedVariables false
set_option maxRecDepth 20000
namespace Go.Proofs.YtbadkjfjdkbgfaaGreat
open Go Go.PL Go.RL
set_option maxHeartbeats 4000000 in
theorem c_swarfref07_Square (a b d e c v w : Rat) {k6 k7 k1 k2 k3 k4 k5 : Nat} [SzR a k1] [SzR b k2] [SzR d k3] [SzR e k4] [SzR c k5] [SzR v k6] [SzR w k7] (hk : k1 + k2 + k3 + k4 + k5 + k6 + k7 ≤ 400) (hok : (decide (r3B ((a + -v) * b + b * (a + -v)) (rC b c) = 0) || (decide (r3B ((d + -w) * e + e * (d + -w)) (rC e c) = 0) || decide (r3C ((a + -v) * b + b * (a + -v)) (rC b c) = r3C ((d + -w) * e + e * (d + -w)) (rC e c)))) = true) :
    Ret Tryz.prog 26 [.a (ratC (a) ++ (ratC (b) ++ (ratC (d) ++ (ratC (e) ++ ratC (c))))), .a (ratC (v) ++ ratC (w))] (.e (.a (ratC (((a + -v) * (a + -v) + b * b * rC b c) + ((d + -w) * (d + -w) + e * e * rC e c)) ++ (ratC (r3B (r3B ((a + -v) * b + b * (a + -v)) (rC b c) + r3B ((d + -w) * e + e * (d + -w)) (rC e c)) (rK (r3B ((a + -v) * b + b * (a + -v)) (rC b c)) (r3C ((a + -v) * b + b * (a + -v)) (rC b c)) (r3C ((d + -w) * e + e * (d + -w)) (rC e c)))) ++ ratC (r3C (r3B ((a + -v) * b + b * (a + -v)) (rC b c) + r3B ((d + -w) * e + e * (d + -w)) (rC e c)) (rK (r3B ((a + -v) * b + b * (a + -v)) (rC b c)) (r3C ((a + -v) * b + b * (a + -v)) (rC b c)) (r3C ((d + -w) * e + e * (d + -w)) (rC e c)))))))) := by
  refine ret_of_body (md := {}) Tryz.func26 (by kernel_rfl) rfl ?_
  simp only [Tryz.f26, List.map_cons, List.map_nil, List.length_cons, List.length_nil, Nat.zero_add, Nat.reduceAdd, Nat.reduceSub, List.reduceReplicate, List.cons_append, List.nil_append]
  refine pwx_sr 3 [] (by rfl) (fun K1 hK1 => ?_)
  simp (disch := omega) only [go_sem]
  refine hK1 _ ?_
  clear hK1 K1
  refine pwx_sd Tryz.mixed 1 [] (by rfl) [] (by kernel_rfl) (by simp) (fun K2 hK2 => ?_)
  refine rgnX_take 3 (fun K3 hK3 => ?_)
  simp (disch := omega) only [go_sem]
  refine ⟨_, c_swarfref07_Back _ _ (by omega), ?_⟩
  refine hK3 _ ?_
  refine rgnX_take 1 (fun K4 hK4 => ?_)
  simp (disch := omega) only [go_sem]
  refine ⟨_, c_swarfref07_Translate _ _ _ _ _ _ _ (by omega), ?_⟩
  refine hK4 _ ?_
  simp (disch := omega) only [go_sem]
  refine hK2 _ ?_
  clear hK4 K4 hK3 K3 hK2 K2
  refine pwx_sd Tryz.mixed 1 [] (by rfl) [] (by kernel_rfl) (by simp) (fun K5 hK5 => ?_)
  refine rgnX_take 2 (fun K6 hK6 => ?_)
  simp (disch := omega) only [go_sem]
  refine ⟨_, c_swarfref07_X _ _ _ _ _, ?_⟩
  refine hK6 _ ?_
  refine rgnX_take 1 (fun K7 hK7 => ?_)
  simp (disch := omega) only [go_sem]
  refine ⟨_, c_swarfref03_Square _ _ _ (by omega), ?_⟩
  refine hK7 _ ?_
  refine rgnX_take 2 (fun K8 hK8 => ?_)
  simp (disch := omega) only [go_sem]
  refine ⟨_, c_swarfref07_Y _ _ _ _ _, ?_⟩
  refine hK8 _ ?_
  refine rgnX_take 1 (fun K9 hK9 => ?_)
  simp (disch := omega) only [go_sem]
  refine ⟨_, c_swarfref03_Square _ _ _ (by omega), ?_⟩
  refine hK9 _ ?_
  refine rgnX_take 1 (fun K10 hK10 => ?_)
  simp (disch := omega) only [go_sem]
  refine ⟨_, c_swarfref03_Add _ _ _ _ _ _ (by omega) hok, ?_⟩
  refine hK10 _ ?_
  simp (disch := omega) only [go_sem]
  refine hK5 _ ?_
  clear hK10 K10 hK9 K9 hK8 K8 hK7 K7 hK6 K6 hK5 K5
  refine pwx_sr 0 [] (by rfl) (fun K11 hK11 => ?_)
  simp (disch := omega) only [go_sem]
  refine hK11 _ ?_
  clear hK11 K11
  refine pwp_ret ?_
  refine ⟨Or.inr rfl, ?_⟩
  simp (disch := omega) only [go_sem]
  all_goals rfl
set_option maxHeartbeats 4000000 in
theorem c_swarfref07_SameVec (v w v' w' : Rat) {k l m n : Nat} [SzR v k] [SzR w l] [SzR v' m] [SzR w' n] (hk : k + l + m + n ≤ 4000) :
    Ret Tryz.prog 39 [.a (ratC (v) ++ ratC (w)), .a (ratC (v') ++ ratC (w'))] (.e (.c (.bool (decide (v = v') && decide (w = w'))))) := by
  refine ret_of_body (md := {}) Tryz.func39 (by kernel_rfl) rfl ?_
  simp only [Tryz.f39, List.map_cons, List.map_nil, List.length_cons, List.length_nil, Nat.zero_add, Nat.reduceAdd, Nat.reduceSub, List.reduceReplicate, List.cons_append, List.nil_append]
  refine pwx_sr 2 [] (by rfl) (fun K1 hK1 => ?_)
  simp (disch := omega) only [go_sem]
  refine hK1 _ ?_
  clear hK1 K1
  rcases h1 : decide (v = v') with _ | _
  · refine pwx_sr 0 [some 5, some 6, some 7, some 8, some 9, some 10, some 11, some 12, some 13, some 14, some 15, some 16, some 4] (by rfl) (fun K2 hK2 => ?_)
    refine rgnX_take 5 (fun K3 hK3 => ?_)
    simp (disch := omega) only [go_sem, h1]
    refine ⟨_, c_swarfref02_Same _ _ (by omega), ?_⟩
    refine hK3 _ ?_
    refine rgnX_take 6 (fun K4 hK4 => ?_)
    simp (disch := omega) only [go_sem, h1]
    first | refine ⟨_, c_swarfref02_Same _ _ (by omega), ?_⟩ | skip
    refine hK4 _ ?_
    simp (disch := omega) only [go_sem, h1]
    refine hK2 _ ?_
    clear hK4 K4 hK3 K3 hK2 K2
    refine pwp_ret ?_
    refine ⟨Or.inr rfl, ?_⟩
    simp (disch := omega) only [go_sem]
    all_goals simp
  · refine pwx_sr 0 [some 5, some 6, some 7, some 8, some 9, some 10, some 11, some 12, some 13, some 14, some 15, some 16, some 4] (by rfl) (fun K5 hK5 => ?_)
    refine rgnX_take 5 (fun K6 hK6 => ?_)
    simp (disch := omega) only [go_sem, h1]
    refine ⟨_, c_swarfref02_Same _ _ (by omega), ?_⟩
    refine hK6 _ ?_
    refine rgnX_take 6 (fun K7 hK7 => ?_)
    simp (disch := omega) only [go_sem, h1]
    first | refine ⟨_, c_swarfref02_Same _ _ (by omega), ?_⟩ | skip
    refine hK7 _ ?_
    simp (disch := omega) only [go_sem, h1]
    refine hK5 _ ?_
    clear hK7 K7 hK6 K6 hK5 K5
    refine pwp_ret ?_
    refine ⟨Or.inr rfl, ?_⟩
    simp (disch := omega) only [go_sem]
    all_goals simp
set_option maxHeartbeats 4000000 in
theorem c_swarfref07_Same (a b d e c : Rat) {k1 k2 k3 k4 k5 : Nat} [SzR a k1] [SzR b k2] [SzR d k3] [SzR e k4] [SzR c k5] (a' b' d' e' c' : Rat) {l1 l2 l3 l4 l5 : Nat} [SzR a' l1] [SzR b' l2] [SzR d' l3] [SzR e' l4] [SzR c' l5] (hk : k1 + k2 + k3 + k4 + k5 + l1 + l2 + l3 + l4 + l5 ≤ 4000) :
    Ret Tryz.prog 15 [.a (ratC (a) ++ (ratC (b) ++ (ratC (d) ++ (ratC (e) ++ ratC (c))))), .a (ratC (a') ++ (ratC (b') ++ (ratC (d') ++ (ratC (e') ++ ratC (c')))))] (.e (.c (.bool (decide (a = a') && (decide (b = b') && (decide (d = d') && (decide (e = e') && decide (c = c')))))))) := by
  refine ret_of_body (md := {}) Tryz.func15 (by kernel_rfl) rfl ?_
  simp only [Tryz.f15, List.map_cons, List.map_nil, List.length_cons, List.length_nil, Nat.zero_add, Nat.reduceAdd, Nat.reduceSub, List.reduceReplicate, List.cons_append, List.nil_append]
  refine pwx_sr 2 [] (by rfl) (fun K1 hK1 => ?_)
  simp (disch := omega) only [go_sem]
  refine hK1 _ ?_
  clear hK1 K1
  rcases five (a := decide (a = a')) (b := decide (b = b')) (c := decide (d = d')) (d := decide (e = e')) (e := decide (c = c')) with h1 | ⟨h1, h2⟩ | ⟨h1, h2, h3⟩ | ⟨h1, h2, h3, h4⟩ | ⟨h1, h2, h3, h4, h5⟩ | ⟨h1, h2, h3, h4, h5⟩
  · refine pwx_sr 0 [some 5, some 6, some 7, some 8, some 9, some 10, some 11, some 12, some 13, some 14, some 15, some 16, some 17, some 18, some 19, some 20, some 21, some 22, some 23, some 24, some 25, some 26, some 27, some 28, some 29, some 30, some 31, some 32, some 33, some 34, some 35, some 36, some 37, some 4] (by rfl) (fun K2 hK2 => ?_)
    refine rgnX_take 5 (fun K3 hK3 => ?_)
    simp (disch := omega) only [go_sem, h1]
    refine ⟨_, c_swarfref02_Same _ _ (by omega), ?_⟩
    refine hK3 _ ?_
    refine rgnX_take 6 (fun K4 hK4 => ?_)
    simp (disch := omega) only [go_sem, h1]
    first | refine ⟨_, c_swarfref02_Same _ _ (by omega), ?_⟩ | skip
    refine hK4 _ ?_
    refine rgnX_take 7 (fun K5 hK5 => ?_)
    simp (disch := omega) only [go_sem, h1]
    first | refine ⟨_, c_swarfref02_Same _ _ (by omega), ?_⟩ | skip
    refine hK5 _ ?_
    refine rgnX_take 7 (fun K6 hK6 => ?_)
    simp (disch := omega) only [go_sem, h1]
    first | refine ⟨_, c_swarfref02_Same _ _ (by omega), ?_⟩ | skip
    refine hK6 _ ?_
    refine rgnX_take 7 (fun K7 hK7 => ?_)
    simp (disch := omega) only [go_sem, h1]
    first | refine ⟨_, c_swarfref02_Same _ _ (by omega), ?_⟩ | skip
    refine hK7 _ ?_
    simp (disch := omega) only [go_sem, h1]
    refine hK2 _ ?_
    clear hK7 K7 hK6 K6 hK5 K5 hK4 K4 hK3 K3 hK2 K2
    refine pwp_ret ?_
    refine ⟨Or.inr rfl, ?_⟩
    simp (disch := omega) only [go_sem]
    simp [h1]
  · refine pwx_sr 0 [some 5, some 6, some 7, some 8, some 9, some 10, some 11, some 12, some 13, some 14, some 15, some 16, some 17, some 18, some 19, some 20, some 21, some 22, some 23, some 24, some 25, some 26, some 27, some 28, some 29, some 30, some 31, some 32, some 33, some 34, some 35, some 36, some 37, some 4] (by rfl) (fun K8 hK8 => ?_)
    refine rgnX_take 5 (fun K9 hK9 => ?_)
    simp (disch := omega) only [go_sem, h1, h2]
    refine ⟨_, c_swarfref02_Same _ _ (by omega), ?_⟩
    refine hK9 _ ?_
    refine rgnX_take 6 (fun K10 hK10 => ?_)
    simp (disch := omega) only [go_sem, h1, h2]
    first | refine ⟨_, c_swarfref02_Same _ _ (by omega), ?_⟩ | skip
    refine hK10 _ ?_
    refine rgnX_take 7 (fun K11 hK11 => ?_)
    simp (disch := omega) only [go_sem, h1, h2]
    first | refine ⟨_, c_swarfref02_Same _ _ (by omega), ?_⟩ | skip
    refine hK11 _ ?_
    refine rgnX_take 7 (fun K12 hK12 => ?_)
    simp (disch := omega) only [go_sem, h1, h2]
    first | refine ⟨_, c_swarfref02_Same _ _ (by omega), ?_⟩ | skip
    refine hK12 _ ?_
    refine rgnX_take 7 (fun K13 hK13 => ?_)
    simp (disch := omega) only [go_sem, h1, h2]
    first | refine ⟨_, c_swarfref02_Same _ _ (by omega), ?_⟩ | skip
    refine hK13 _ ?_
    simp (disch := omega) only [go_sem, h1, h2]
    refine hK8 _ ?_
    clear hK13 K13 hK12 K12 hK11 K11 hK10 K10 hK9 K9 hK8 K8
    refine pwp_ret ?_
    refine ⟨Or.inr rfl, ?_⟩
    simp (disch := omega) only [go_sem]
    simp [h1, h2]
  · refine pwx_sr 0 [some 5, some 6, some 7, some 8, some 9, some 10, some 11, some 12, some 13, some 14, some 15, some 16, some 17, some 18, some 19, some 20, some 21, some 22, some 23, some 24, some 25, some 26, some 27, some 28, some 29, some 30, some 31, some 32, some 33, some 34, some 35, some 36, some 37, some 4] (by rfl) (fun K14 hK14 => ?_)
    refine rgnX_take 5 (fun K15 hK15 => ?_)
    simp (disch := omega) only [go_sem, h1, h2, h3]
    refine ⟨_, c_swarfref02_Same _ _ (by omega), ?_⟩
    refine hK15 _ ?_
    refine rgnX_take 6 (fun K16 hK16 => ?_)
    simp (disch := omega) only [go_sem, h1, h2, h3]
    first | refine ⟨_, c_swarfref02_Same _ _ (by omega), ?_⟩ | skip
    refine hK16 _ ?_
    refine rgnX_take 7 (fun K17 hK17 => ?_)
    simp (disch := omega) only [go_sem, h1, h2, h3]
    first | refine ⟨_, c_swarfref02_Same _ _ (by omega), ?_⟩ | skip
    refine hK17 _ ?_
    refine rgnX_take 7 (fun K18 hK18 => ?_)
    simp (disch := omega) only [go_sem, h1, h2, h3]
    first | refine ⟨_, c_swarfref02_Same _ _ (by omega), ?_⟩ | skip
    refine hK18 _ ?_
    refine rgnX_take 7 (fun K19 hK19 => ?_)
    simp (disch := omega) only [go_sem, h1, h2, h3]
    first | refine ⟨_, c_swarfref02_Same _ _ (by omega), ?_⟩ | skip
    refine hK19 _ ?_
    simp (disch := omega) only [go_sem, h1, h2, h3]
    refine hK14 _ ?_
    clear hK19 K19 hK18 K18 hK17 K17 hK16 K16 hK15 K15 hK14 K14
    refine pwp_ret ?_
    refine ⟨Or.inr rfl, ?_⟩
    simp (disch := omega) only [go_sem]
    simp [h1, h2, h3]
  · refine pwx_sr 0 [some 5, some 6, some 7, some 8, some 9, some 10, some 11, some 12, some 13, some 14, some 15, some 16, some 17, some 18, some 19, some 20, some 21, some 22, some 23, some 24, some 25, some 26, some 27, some 28, some 29, some 30, some 31, some 32, some 33, some 34, some 35, some 36, some 37, some 4] (by rfl) (fun K20 hK20 => ?_)
    refine rgnX_take 5 (fun K21 hK21 => ?_)
    simp (disch := omega) only [go_sem, h1, h2, h3, h4]
    refine ⟨_, c_swarfref02_Same _ _ (by omega), ?_⟩
    refine hK21 _ ?_
    refine rgnX_take 6 (fun K22 hK22 => ?_)
    simp (disch := omega) only [go_sem, h1, h2, h3, h4]
    first | refine ⟨_, c_swarfref02_Same _ _ (by omega), ?_⟩ | skip
    refine hK22 _ ?_
    refine rgnX_take 7 (fun K23 hK23 => ?_)
    simp (disch := omega) only [go_sem, h1, h2, h3, h4]
    first | refine ⟨_, c_swarfref02_Same _ _ (by omega), ?_⟩ | skip
    refine hK23 _ ?_
    refine rgnX_take 7 (fun K24 hK24 => ?_)
    simp (disch := omega) only [go_sem, h1, h2, h3, h4]
    first | refine ⟨_, c_swarfref02_Same _ _ (by omega), ?_⟩ | skip
    refine hK24 _ ?_
    refine rgnX_take 7 (fun K25 hK25 => ?_)
    simp (disch := omega) only [go_sem, h1, h2, h3, h4]
    first | refine ⟨_, c_swarfref02_Same _ _ (by omega), ?_⟩ | skip
    refine hK25 _ ?_
    simp (disch := omega) only [go_sem, h1, h2, h3, h4]
    refine hK20 _ ?_
    clear hK25 K25 hK24 K24 hK23 K23 hK22 K22 hK21 K21 hK20 K20
    refine pwp_ret ?_
    refine ⟨Or.inr rfl, ?_⟩
    simp (disch := omega) only [go_sem]
    simp [h1, h2, h3, h4]
  · refine pwx_sr 0 [some 5, some 6, some 7, some 8, some 9, some 10, some 11, some 12, some 13, some 14, some 15, some 16, some 17, some 18, some 19, some 20, some 21, some 22, some 23, some 24, some 25, some 26, some 27, some 28, some 29, some 30, some 31, some 32, some 33, some 34, some 35, some 36, some 37, some 4] (by rfl) (fun K26 hK26 => ?_)
    refine rgnX_take 5 (fun K27 hK27 => ?_)
    simp (disch := omega) only [go_sem, h1, h2, h3, h4, h5]
    refine ⟨_, c_swarfref02_Same _ _ (by omega), ?_⟩
    refine hK27 _ ?_
    refine rgnX_take 6 (fun K28 hK28 => ?_)
    simp (disch := omega) only [go_sem, h1, h2, h3, h4, h5]
    first | refine ⟨_, c_swarfref02_Same _ _ (by omega), ?_⟩ | skip
    refine hK28 _ ?_
    refine rgnX_take 7 (fun K29 hK29 => ?_)
    simp (disch := omega) only [go_sem, h1, h2, h3, h4, h5]
    first | refine ⟨_, c_swarfref02_Same _ _ (by omega), ?_⟩ | skip
    refine hK29 _ ?_
    refine rgnX_take 7 (fun K30 hK30 => ?_)
    simp (disch := omega) only [go_sem, h1, h2, h3, h4, h5]
    first | refine ⟨_, c_swarfref02_Same _ _ (by omega), ?_⟩ | skip
    refine hK30 _ ?_
    refine rgnX_take 7 (fun K31 hK31 => ?_)
    simp (disch := omega) only [go_sem, h1, h2, h3, h4, h5]
    first | refine ⟨_, c_swarfref02_Same _ _ (by omega), ?_⟩ | skip
    refine hK31 _ ?_
    simp (disch := omega) only [go_sem, h1, h2, h3, h4, h5]
    refine hK26 _ ?_
    clear hK31 K31 hK30 K30 hK29 K29 hK28 K28 hK27 K27 hK26 K26
    refine pwp_ret ?_
    refine ⟨Or.inr rfl, ?_⟩
    simp (disch := omega) only [go_sem]
    simp [h1, h2, h3, h4, h5]
  · refine pwx_sr 0 [some 5, some 6, some 7, some 8, some 9, some 10, some 11, some 12, some 13, some 14, some 15, some 16, some 17, some 18, some 19, some 20, some 21, some 22, some 23, some 24, some 25, some 26, some 27, some 28, some 29, some 30, some 31, some 32, some 33, some 34, some 35, some 36, some 37, some 4] (by rfl) (fun K32 hK32 => ?_)
    refine rgnX_take 5 (fun K33 hK33 => ?_)
    simp (disch := omega) only [go_sem, h1, h2, h3, h4, h5]
    refine ⟨_, c_swarfref02_Same _ _ (by omega), ?_⟩
    refine hK33 _ ?_
    refine rgnX_take 6 (fun K34 hK34 => ?_)
    simp (disch := omega) only [go_sem, h1, h2, h3, h4, h5]
    first | refine ⟨_, c_swarfref02_Same _ _ (by omega), ?_⟩ | skip
    refine hK34 _ ?_
    refine rgnX_take 7 (fun K35 hK35 => ?_)
    simp (disch := omega) only [go_sem, h1, h2, h3, h4, h5]
    first | refine ⟨_, c_swarfref02_Same _ _ (by omega), ?_⟩ | skip
    refine hK35 _ ?_
    refine rgnX_take 7 (fun K36 hK36 => ?_)
    simp (disch := omega) only [go_sem, h1, h2, h3, h4, h5]
    first | refine ⟨_, c_swarfref02_Same _ _ (by omega), ?_⟩ | skip
    refine hK36 _ ?_
    refine rgnX_take 7 (fun K37 hK37 => ?_)
    simp (disch := omega) only [go_sem, h1, h2, h3, h4, h5]
    first | refine ⟨_, c_swarfref02_Same _ _ (by omega), ?_⟩ | skip
    refine hK37 _ ?_
    simp (disch := omega) only [go_sem, h1, h2, h3, h4, h5]
    refine hK32 _ ?_
    clear hK37 K37 hK36 K36 hK35 K35 hK34 K34 hK33 K33 hK32 K32
    refine pwp_ret ?_
    refine ⟨Or.inr rfl, ?_⟩
    simp (disch := omega) only [go_sem]
    simp [h1, h2, h3, h4, h5]
set_option maxHeartbeats 4000000 in
theorem c_swarfref07_SameZ :
    Ret Tryz.prog 15 [.a [.bool false, .sl 0 [], .bool false, .sl 0 [], .bool false, .sl 0 [], .bool false, .sl 0 [], .bool false, .sl 0 [], .bool false, .sl 0 [], .bool false, .sl 0 [], .bool false, .sl 0 [], .bool false, .sl 0 [], .bool false, .sl 0 []], .a [.bool false, .sl 0 [], .bool false, .sl 0 [], .bool false, .sl 0 [], .bool false, .sl 0 [], .bool false, .sl 0 [], .bool false, .sl 0 [], .bool false, .sl 0 [], .bool false, .sl 0 [], .bool false, .sl 0 [], .bool false, .sl 0 []]] (.e (.c (.bool true))) := by
  refine ret_of_body (md := {}) Tryz.func15 (by kernel_rfl) rfl ?_
  simp only [Tryz.f15, List.map_cons, List.map_nil, List.length_cons, List.length_nil, Nat.zero_add, Nat.reduceAdd, Nat.reduceSub, List.reduceReplicate, List.cons_append, List.nil_append]
  refine pwx_sr 2 [] (by rfl) (fun K1 hK1 => ?_)
  simp (disch := omega) only [go_sem]
  refine hK1 _ ?_
  clear hK1 K1
  refine pwx_sr 0 [some 5, some 6, some 7, some 8, some 9, some 10, some 11, some 12, some 13, some 14, some 15, some 16, some 17, some 18, some 19, some 20, some 21, some 22, some 23, some 24, some 25, some 26, some 27, some 28, some 29, some 30, some 31, some 32, some 33, some 34, some 35, some 36, some 37, some 4] (by rfl) (fun K2 hK2 => ?_)
  refine rgnX_take 5 (fun K3 hK3 => ?_)
  simp (disch := omega) only [go_sem]
  refine ⟨_, c_swarfref02_SameZ, ?_⟩
  refine hK3 _ ?_
  refine rgnX_take 6 (fun K4 hK4 => ?_)
  simp (disch := omega) only [go_sem]
  first | refine ⟨_, c_swarfref02_SameZ, ?_⟩ | skip
  refine hK4 _ ?_
  refine rgnX_take 7 (fun K5 hK5 => ?_)
  simp (disch := omega) only [go_sem]
  first | refine ⟨_, c_swarfref02_SameZ, ?_⟩ | skip
  refine hK5 _ ?_
  refine rgnX_take 7 (fun K6 hK6 => ?_)
  simp (disch := omega) only [go_sem]
  first | refine ⟨_, c_swarfref02_SameZ, ?_⟩ | skip
  refine hK6 _ ?_
  refine rgnX_take 7 (fun K7 hK7 => ?_)
  simp (disch := omega) only [go_sem]
  first | refine ⟨_, c_swarfref02_SameZ, ?_⟩ | skip
  refine hK7 _ ?_
  simp (disch := omega) only [go_sem]
  refine hK2 _ ?_
  clear hK7 K7 hK6 K6 hK5 K5 hK4 K4 hK3 K3 hK2 K2
  refine pwp_ret ?_
  refine ⟨Or.inr rfl, ?_⟩
  simp (disch := omega) only [go_sem]
set_option maxHeartbeats 4000000 in
theorem c_swarfref07_SameVecZ :
    Ret Tryz.prog 39 [.a [.bool false, .sl 0 [], .bool false, .sl 0 [], .bool false, .sl 0 [], .bool false, .sl 0 []], .a [.bool false, .sl 0 [], .bool false, .sl 0 [], .bool false, .sl 0 [], .bool false, .sl 0 []]] (.e (.c (.bool true))) := by
  refine ret_of_body (md := {}) Tryz.func39 (by kernel_rfl) rfl ?_
  simp only [Tryz.f39, List.map_cons, List.map_nil, List.length_cons, List.length_nil, Nat.zero_add, Nat.reduceAdd, Nat.reduceSub, List.reduceReplicate, List.cons_append, List.nil_append]
  refine pwx_sr 2 [] (by rfl) (fun K1 hK1 => ?_)
  simp (disch := omega) only [go_sem]
  refine hK1 _ ?_
  clear hK1 K1
  refine pwx_sr 0 [some 5, some 6, some 7, some 8, some 9, some 10, some 11, some 12, some 13, some 14, some 15, some 16, some 4] (by rfl) (fun K2 hK2 => ?_)
  refine rgnX_take 5 (fun K3 hK3 => ?_)
  simp (disch := omega) only [go_sem]
  refine ⟨_, c_swarfref02_SameZ, ?_⟩
  refine hK3 _ ?_
  refine rgnX_take 6 (fun K4 hK4 => ?_)
  simp (disch := omega) only [go_sem]
  first | refine ⟨_, c_swarfref02_SameZ, ?_⟩ | skip
  refine hK4 _ ?_
  simp (disch := omega) only [go_sem]
  refine hK2 _ ?_
  clear hK4 K4 hK3 K3 hK2 K2
  refine pwp_ret ?_
  refine ⟨Or.inr rfl, ?_⟩
  simp (disch := omega) only [go_sem]

end Go.Proofs.YtbadkjfjdkbgfaaGreat

set_option linter.unusedSimpArgs false
set_option linter.unusedVariables false
set_option maxRecDepth 20000
namespace Go.Proofs.YtbadkjfjdkbgfaaGreat
open Go Go.PL Go.RL
set_option maxHeartbeats 4000000 in
theorem c_swarfref07_Small_f (n0 n1 n2 n3 n4 n5 n6 n7 n8 n9 : Bool) (l0 l1 l2 l3 l4 l5 l6 l7 l8 l9 : List Nat) (k : Nat) (hk : k ≤ 1000000) (hs : ¬ (smlR k n0 l0 n1 l1 = true ∧ smlR k n4 l4 n5 l5 = true ∧ smlR k n2 l2 n3 l3 = true ∧ smlR k n6 l6 n7 l7 = true ∧ smlR k n8 l8 n9 l9 = true)) :
    Ret Tryz.prog 58 [.a [.bool n0, lC l0, .bool n1, lC l1, .bool n2, lC l2, .bool n3, lC l3, .bool n4, lC l4, .bool n5, lC l5, .bool n6, lC l6, .bool n7, lC l7, .bool n8, lC l8, .bool n9, lC l9], .c (.int .i64 (k : Int))] (.e (.c (.bool false))) := by
  refine ret_of_body (md := {}) Tryz.func58 (by kernel_rfl) rfl ?_
  simp only [Tryz.f58, List.map_cons, List.map_nil, List.length_cons, List.length_nil, Nat.zero_add, Nat.reduceAdd, Nat.reduceSub, List.reduceReplicate, List.cons_append, List.nil_append]
  refine pwx_sr 1 [] (by rfl) (fun K1 hK1 => ?_)
  simp (disch := omega) only [go_sem]
  refine hK1 _ ?_
  clear hK1 K1
  rcases five_f hs with h1 | ⟨h1, h2⟩ | ⟨h1, h2, h3⟩ | ⟨h1, h2, h3, h4⟩ | ⟨h1, h2, h3, h4, h5⟩
  · refine pwx_sr 0 [some 5, some 6, some 7, some 8, some 9, some 10, some 11, some 12, some 13, some 14, some 15, some 16, some 17, some 18, some 19, some 20, some 21, some 22, some 23, some 24, some 25, some 26, some 27, some 28, some 29, some 30, some 31, some 32, some 33, some 34, some 35, some 36, some 4] (by rfl) (fun K2 hK2 => ?_)
    refine rgnX_take 4 (fun K3 hK3 => ?_)
    simp (disch := omega) only [go_sem, h1]
    refine ⟨_, c_swarfref02_Small _ _ _ _ _ (by omega), ?_⟩
    refine hK3 _ ?_
    refine rgnX_take 5 (fun K4 hK4 => ?_)
    simp (disch := omega) only [go_sem, h1]
    first | refine ⟨_, c_swarfref02_Small _ _ _ _ _ (by omega), ?_⟩ | skip
    refine hK4 _ ?_
    refine rgnX_take 6 (fun K5 hK5 => ?_)
    simp (disch := omega) only [go_sem, h1]
    first | refine ⟨_, c_swarfref02_Small _ _ _ _ _ (by omega), ?_⟩ | skip
    refine hK5 _ ?_
    refine rgnX_take 6 (fun K6 hK6 => ?_)
    simp (disch := omega) only [go_sem, h1]
    first | refine ⟨_, c_swarfref02_Small _ _ _ _ _ (by omega), ?_⟩ | skip
    refine hK6 _ ?_
    refine rgnX_take 6 (fun K7 hK7 => ?_)
    simp (disch := omega) only [go_sem, h1]
    first | refine ⟨_, c_swarfref02_Small _ _ _ _ _ (by omega), ?_⟩ | skip
    refine hK7 _ ?_
    refine rgnX_take 4 (fun K8 hK8 => ?_)
    simp (disch := omega) only [go_sem, h1]
    first | refine ⟨_, absurd, ?_⟩ | skip
    refine hK8 _ ?_
    simp (disch := omega) only [go_sem, h1]
    refine hK2 _ ?_
    clear hK8 K8 hK7 K7 hK6 K6 hK5 K5 hK4 K4 hK3 K3 hK2 K2
    refine pwp_ret ?_
    refine ⟨Or.inr rfl, ?_⟩
    simp (disch := omega) only [go_sem]
  · refine pwx_sr 0 [some 5, some 6, some 7, some 8, some 9, some 10, some 11, some 12, some 13, some 14, some 15, some 16, some 17, some 18, some 19, some 20, some 21, some 22, some 23, some 24, some 25, some 26, some 27, some 28, some 29, some 30, some 31, some 32, some 33, some 34, some 35, some 36, some 4] (by rfl) (fun K9 hK9 => ?_)
    refine rgnX_take 4 (fun K10 hK10 => ?_)
    simp (disch := omega) only [go_sem, h1, h2]
    refine ⟨_, c_swarfref02_Small _ _ _ _ _ (by omega), ?_⟩
    refine hK10 _ ?_
    refine rgnX_take 5 (fun K11 hK11 => ?_)
    simp (disch := omega) only [go_sem, h1, h2]
    first | refine ⟨_, c_swarfref02_Small _ _ _ _ _ (by omega), ?_⟩ | skip
    refine hK11 _ ?_
    refine rgnX_take 6 (fun K12 hK12 => ?_)
    simp (disch := omega) only [go_sem, h1, h2]
    first | refine ⟨_, c_swarfref02_Small _ _ _ _ _ (by omega), ?_⟩ | skip
    refine hK12 _ ?_
    refine rgnX_take 6 (fun K13 hK13 => ?_)
    simp (disch := omega) only [go_sem, h1, h2]
    first | refine ⟨_, c_swarfref02_Small _ _ _ _ _ (by omega), ?_⟩ | skip
    refine hK13 _ ?_
    refine rgnX_take 6 (fun K14 hK14 => ?_)
    simp (disch := omega) only [go_sem, h1, h2]
    first | refine ⟨_, c_swarfref02_Small _ _ _ _ _ (by omega), ?_⟩ | skip
    refine hK14 _ ?_
    refine rgnX_take 4 (fun K15 hK15 => ?_)
    simp (disch := omega) only [go_sem, h1, h2]
    first | refine ⟨_, absurd, ?_⟩ | skip
    refine hK15 _ ?_
    simp (disch := omega) only [go_sem, h1, h2]
    refine hK9 _ ?_
    clear hK15 K15 hK14 K14 hK13 K13 hK12 K12 hK11 K11 hK10 K10 hK9 K9
    refine pwp_ret ?_
    refine ⟨Or.inr rfl, ?_⟩
    simp (disch := omega) only [go_sem]
  · refine pwx_sr 0 [some 5, some 6, some 7, some 8, some 9, some 10, some 11, some 12, some 13, some 14, some 15, some 16, some 17, some 18, some 19, some 20, some 21, some 22, some 23, some 24, some 25, some 26, some 27, some 28, some 29, some 30, some 31, some 32, some 33, some 34, some 35, some 36, some 4] (by rfl) (fun K16 hK16 => ?_)
    refine rgnX_take 4 (fun K17 hK17 => ?_)
    simp (disch := omega) only [go_sem, h1, h2, h3]
    refine ⟨_, c_swarfref02_Small _ _ _ _ _ (by omega), ?_⟩
    refine hK17 _ ?_
    refine rgnX_take 5 (fun K18 hK18 => ?_)
    simp (disch := omega) only [go_sem, h1, h2, h3]
    first | refine ⟨_, c_swarfref02_Small _ _ _ _ _ (by omega), ?_⟩ | skip
    refine hK18 _ ?_
    refine rgnX_take 6 (fun K19 hK19 => ?_)
    simp (disch := omega) only [go_sem, h1, h2, h3]
    first | refine ⟨_, c_swarfref02_Small _ _ _ _ _ (by omega), ?_⟩ | skip
    refine hK19 _ ?_
    refine rgnX_take 6 (fun K20 hK20 => ?_)
    simp (disch := omega) only [go_sem, h1, h2, h3]
    first | refine ⟨_, c_swarfref02_Small _ _ _ _ _ (by omega), ?_⟩ | skip
    refine hK20 _ ?_
    refine rgnX_take 6 (fun K21 hK21 => ?_)
    simp (disch := omega) only [go_sem, h1, h2, h3]
    first | refine ⟨_, c_swarfref02_Small _ _ _ _ _ (by omega), ?_⟩ | skip
    refine hK21 _ ?_
    refine rgnX_take 4 (fun K22 hK22 => ?_)
    simp (disch := omega) only [go_sem, h1, h2, h3]
    first | refine ⟨_, absurd, ?_⟩ | skip
    refine hK22 _ ?_
    simp (disch := omega) only [go_sem, h1, h2, h3]
    refine hK16 _ ?_
    clear hK22 K22 hK21 K21 hK20 K20 hK19 K19 hK18 K18 hK17 K17 hK16 K16
    refine pwp_ret ?_
    refine ⟨Or.inr rfl, ?_⟩
    simp (disch := omega) only [go_sem]
  · refine pwx_sr 0 [some 5, some 6, some 7, some 8, some 9, some 10, some 11, some 12, some 13, some 14, some 15, some 16, some 17, some 18, some 19, some 20, some 21, some 22, some 23, some 24, some 25, some 26, some 27, some 28, some 29, some 30, some 31, some 32, some 33, some 34, some 35, some 36, some 4] (by rfl) (fun K23 hK23 => ?_)
    refine rgnX_take 4 (fun K24 hK24 => ?_)
    simp (disch := omega) only [go_sem, h1, h2, h3, h4]
    refine ⟨_, c_swarfref02_Small _ _ _ _ _ (by omega), ?_⟩
    refine hK24 _ ?_
    refine rgnX_take 5 (fun K25 hK25 => ?_)
    simp (disch := omega) only [go_sem, h1, h2, h3, h4]
    first | refine ⟨_, c_swarfref02_Small _ _ _ _ _ (by omega), ?_⟩ | skip
    refine hK25 _ ?_
    refine rgnX_take 6 (fun K26 hK26 => ?_)
    simp (disch := omega) only [go_sem, h1, h2, h3, h4]
    first | refine ⟨_, c_swarfref02_Small _ _ _ _ _ (by omega), ?_⟩ | skip
    refine hK26 _ ?_
    refine rgnX_take 6 (fun K27 hK27 => ?_)
    simp (disch := omega) only [go_sem, h1, h2, h3, h4]
    first | refine ⟨_, c_swarfref02_Small _ _ _ _ _ (by omega), ?_⟩ | skip
    refine hK27 _ ?_
    refine rgnX_take 6 (fun K28 hK28 => ?_)
    simp (disch := omega) only [go_sem, h1, h2, h3, h4]
    first | refine ⟨_, c_swarfref02_Small _ _ _ _ _ (by omega), ?_⟩ | skip
    refine hK28 _ ?_
    refine rgnX_take 4 (fun K29 hK29 => ?_)
    simp (disch := omega) only [go_sem, h1, h2, h3, h4]
    first | refine ⟨_, absurd, ?_⟩ | skip
    refine hK29 _ ?_
    simp (disch := omega) only [go_sem, h1, h2, h3, h4]
    refine hK23 _ ?_
    clear hK29 K29 hK28 K28 hK27 K27 hK26 K26 hK25 K25 hK24 K24 hK23 K23
    refine pwp_ret ?_
    refine ⟨Or.inr rfl, ?_⟩
    simp (disch := omega) only [go_sem]
  · refine pwx_sr 0 [some 5, some 6, some 7, some 8, some 9, some 10, some 11, some 12, some 13, some 14, some 15, some 16, some 17, some 18, some 19, some 20, some 21, some 22, some 23, some 24, some 25, some 26, some 27, some 28, some 29, some 30, some 31, some 32, some 33, some 34, some 35, some 36, some 4] (by rfl) (fun K30 hK30 => ?_)
    refine rgnX_take 4 (fun K31 hK31 => ?_)
    simp (disch := omega) only [go_sem, h1, h2, h3, h4, h5]
    refine ⟨_, c_swarfref02_Small _ _ _ _ _ (by omega), ?_⟩
    refine hK31 _ ?_
    refine rgnX_take 5 (fun K32 hK32 => ?_)
    simp (disch := omega) only [go_sem, h1, h2, h3, h4, h5]
    first | refine ⟨_, c_swarfref02_Small _ _ _ _ _ (by omega), ?_⟩ | skip
    refine hK32 _ ?_
    refine rgnX_take 6 (fun K33 hK33 => ?_)
    simp (disch := omega) only [go_sem, h1, h2, h3, h4, h5]
    first | refine ⟨_, c_swarfref02_Small _ _ _ _ _ (by omega), ?_⟩ | skip
    refine hK33 _ ?_
    refine rgnX_take 6 (fun K34 hK34 => ?_)
    simp (disch := omega) only [go_sem, h1, h2, h3, h4, h5]
    first | refine ⟨_, c_swarfref02_Small _ _ _ _ _ (by omega), ?_⟩ | skip
    refine hK34 _ ?_
    refine rgnX_take 6 (fun K35 hK35 => ?_)
    simp (disch := omega) only [go_sem, h1, h2, h3, h4, h5]
    first | refine ⟨_, c_swarfref02_Small _ _ _ _ _ (by omega), ?_⟩ | skip
    refine hK35 _ ?_
    refine rgnX_take 4 (fun K36 hK36 => ?_)
    simp (disch := omega) only [go_sem, h1, h2, h3, h4, h5]
    first | refine ⟨_, absurd, ?_⟩ | skip
    refine hK36 _ ?_
    simp (disch := omega) only [go_sem, h1, h2, h3, h4, h5]
    refine hK30 _ ?_
    clear hK36 K36 hK35 K35 hK34 K34 hK33 K33 hK32 K32 hK31 K31 hK30 K30
    refine pwp_ret ?_
    refine ⟨Or.inr rfl, ?_⟩
    simp (disch := omega) only [go_sem]
set_option maxHeartbeats 4000000 in
theorem c_swarfref07_Valid (a b d e c : Rat) {k1 k2 k3 k4 k5 : Nat} [SzR a k1] [SzR b k2] [SzR d k3] [SzR e k4] [SzR c k5] (hk : k1 + k2 + k3 + k4 + k5 ≤ 10000) :
    Ret Tryz.prog 41 [.a (ratC (a) ++ (ratC (b) ++ (ratC (d) ++ (ratC (e) ++ ratC (c)))))] (.e (.c (.bool (vldP b e c)))) := by
  refine ret_of_body (md := {}) Tryz.func41 (by kernel_rfl) rfl ?_
  simp only [Tryz.f41, List.map_cons, List.map_nil, List.length_cons, List.length_nil, Nat.zero_add, Nat.reduceAdd, Nat.reduceSub, List.reduceReplicate, List.cons_append, List.nil_append]
  refine pwx_sr 1 [] (by rfl) (fun K1 hK1 => ?_)
  simp (disch := omega) only [go_sem]
  refine hK1 _ ?_
  clear hK1 K1
  refine pwp_seq ?_
  refine pwx_sr 0 [some 5, some 6, some 7, some 8, some 9, some 10, some 11, some 12, some 13, some 14, some 15, some 16, some 17, some 18, some 19, some 20, some 21, some 22, some 23, some 24, some 25, some 26, some 27, some 28, some 29, some 30, some 31, some 32] (by rfl) (fun K2 hK2 => ?_)
  refine rgnX_take 3 (fun K3 hK3 => ?_)
  simp (disch := omega) only [go_sem]
  refine ⟨_, c_swarfref02_ValidQ _ (by omega), ?_⟩
  refine hK3 _ ?_
  refine rgnX_take 5 (fun K4 hK4 => ?_)
  simp (disch := omega) only [go_sem]
  first | refine ⟨_, c_swarfref02_ValidQ _ (by omega), ?_⟩ | skip
  refine hK4 _ ?_
  refine rgnX_take 6 (fun K5 hK5 => ?_)
  simp (disch := omega) only [go_sem]
  first | refine ⟨_, c_swarfref02_ValidQ _ (by omega), ?_⟩ | skip
  refine hK5 _ ?_
  refine rgnX_take 6 (fun K6 hK6 => ?_)
  simp (disch := omega) only [go_sem]
  first | refine ⟨_, c_swarfref02_ValidQ _ (by omega), ?_⟩ | skip
  refine hK6 _ ?_
  refine rgnX_take 6 (fun K7 hK7 => ?_)
  simp (disch := omega) only [go_sem]
  first | refine ⟨_, c_swarfref02_ValidQ _ (by omega), ?_⟩ | skip
  refine hK7 _ ?_
  simp (disch := omega) only [go_sem]
  refine hK2 _ ?_
  clear hK7 K7 hK6 K6 hK5 K5 hK4 K4 hK3 K3 hK2 K2
  refine pwp_cond (b := false) (by rfl) (fun h => nomatch h) (fun _ => ?_)
  refine pwp_skip ?_
  refine n_then ?_
  refine pwp_seq ?_
  by_cases hb0 : b = 0 <;> by_cases he0 : e = 0
  · have hbd := decide_eq_true hb0
    have hed := decide_eq_true he0
    refine pwx_sr 0 [some 33, some 34, some 35, some 36, some 37, some 38, some 39, some 40, some 41, some 42] (by rfl) (fun K8 hK8 => ?_)
    refine rgnX_take 3 (fun K9 hK9 => ?_)
    simp (disch := omega) only [go_sem, hbd, hed]
    refine ⟨_, c_swarfref02_Sign _, ?_⟩
    refine hK9 _ ?_
    refine rgnX_take 5 (fun K10 hK10 => ?_)
    simp (disch := omega) only [go_sem, hbd, hed]
    first | refine ⟨_, c_swarfref02_Sign _, ?_⟩ | skip
    refine hK10 _ ?_
    simp (disch := omega) only [go_sem, hbd, hed]
    refine hK8 _ ?_
    clear hK10 K10 hK9 K9 hK8 K8
    refine pwp_cond (b := true) (by rfl) (fun _ => ?_) (fun h => nomatch h)
    refine pwx_sr 0 [] (by rfl) (fun K11 hK11 => ?_)
    refine rgnX_take 3 (fun K12 hK12 => ?_)
    simp (disch := omega) only [go_sem]
    refine ⟨_, c_swarfref02_Sign _, ?_⟩
    refine hK12 _ ?_
    simp (disch := omega) only [go_sem]
    refine hK11 _ ?_
    clear hK12 K12 hK11 K11
    refine pwp_ret ?_
    refine r_then ?_
    refine ⟨Or.inr rfl, ?_⟩
    simp (disch := omega) only [go_sem]
    all_goals simp_all [vldP]
  · have hbd := decide_eq_true hb0
    have hed := decide_eq_false he0
    refine pwx_sr 0 [some 33, some 34, some 35, some 36, some 37, some 38, some 39, some 40, some 41, some 42] (by rfl) (fun K13 hK13 => ?_)
    refine rgnX_take 3 (fun K14 hK14 => ?_)
    simp (disch := omega) only [go_sem, hbd, hed]
    refine ⟨_, c_swarfref02_Sign _, ?_⟩
    refine hK14 _ ?_
    refine rgnX_take 5 (fun K15 hK15 => ?_)
    simp (disch := omega) only [go_sem, hbd, hed]
    first | refine ⟨_, c_swarfref02_Sign _, ?_⟩ | skip
    refine hK15 _ ?_
    simp (disch := omega) only [go_sem, hbd, hed]
    refine hK13 _ ?_
    clear hK15 K15 hK14 K14 hK13 K13
    refine pwp_cond (b := false) (by rfl) (fun h => nomatch h) (fun _ => ?_)
    refine pwp_skip ?_
    refine n_then ?_
    rcases hs : sqB c with _ | _
    · refine pwx_sr 1 [] (by rfl) (fun K16 hK16 => ?_)
      refine rgnX_take 3 (fun K17 hK17 => ?_)
      simp (disch := omega) only [go_sem]
      first | refine ⟨_, c_swarfref02_Sqrt_f _ (by omega) hs, ?_⟩ | refine ⟨_, c_swarfref02_Sqrt_t _ (by omega) hs, ?_⟩
      refine hK17 _ ?_
      simp (disch := omega) only [go_sem]
      refine hK16 _ ?_
      clear hK17 K17 hK16 K16
      by_cases hcp : 0 < c
      · have hcpd := decide_eq_true hcp
        refine pwx_sr 0 [some 53, some 54, some 55, some 56, some 57, some 58, some 59, some 60, some 2] (by rfl) (fun K18 hK18 => ?_)
        refine rgnX_take 3 (fun K19 hK19 => ?_)
        simp (disch := omega) only [go_sem, hcpd, hs]
        refine ⟨_, c_swarfref02_Sign _, ?_⟩
        refine hK19 _ ?_
        simp (disch := omega) only [go_sem, hcpd, hs]
        refine hK18 _ ?_
        clear hK19 K19 hK18 K18
        refine pwp_ret ?_
        refine ⟨Or.inr rfl, ?_⟩
        simp (disch := omega) only [go_sem]
        all_goals simp_all [vldP]
      · have hcpd := decide_eq_false hcp
        refine pwx_sr 0 [some 53, some 54, some 55, some 56, some 57, some 58, some 59, some 60, some 2] (by rfl) (fun K20 hK20 => ?_)
        refine rgnX_take 3 (fun K21 hK21 => ?_)
        simp (disch := omega) only [go_sem, hcpd, hs]
        refine ⟨_, c_swarfref02_Sign _, ?_⟩
        refine hK21 _ ?_
        simp (disch := omega) only [go_sem, hcpd, hs]
        refine hK20 _ ?_
        clear hK21 K21 hK20 K20
        refine pwp_ret ?_
        refine ⟨Or.inr rfl, ?_⟩
        simp (disch := omega) only [go_sem]
        all_goals simp_all [vldP]
    · refine pwx_sr 1 [] (by rfl) (fun K22 hK22 => ?_)
      refine rgnX_take 3 (fun K23 hK23 => ?_)
      simp (disch := omega) only [go_sem]
      first | refine ⟨_, c_swarfref02_Sqrt_f _ (by omega) hs, ?_⟩ | refine ⟨_, c_swarfref02_Sqrt_t _ (by omega) hs, ?_⟩
      refine hK23 _ ?_
      simp (disch := omega) only [go_sem]
      refine hK22 _ ?_
      clear hK23 K23 hK22 K22
      by_cases hcp : 0 < c
      · have hcpd := decide_eq_true hcp
        refine pwx_sr 0 [some 53, some 54, some 55, some 56, some 57, some 58, some 59, some 60, some 2] (by rfl) (fun K24 hK24 => ?_)
        refine rgnX_take 3 (fun K25 hK25 => ?_)
        simp (disch := omega) only [go_sem, hcpd, hs]
        refine ⟨_, c_swarfref02_Sign _, ?_⟩
        refine hK25 _ ?_
        simp (disch := omega) only [go_sem, hcpd, hs]
        refine hK24 _ ?_
        clear hK25 K25 hK24 K24
        refine pwp_ret ?_
        refine ⟨Or.inr rfl, ?_⟩
        simp (disch := omega) only [go_sem]
        all_goals simp_all [vldP]
      · have hcpd := decide_eq_false hcp
        refine pwx_sr 0 [some 53, some 54, some 55, some 56, some 57, some 58, some 59, some 60, some 2] (by rfl) (fun K26 hK26 => ?_)
        refine rgnX_take 3 (fun K27 hK27 => ?_)
        simp (disch := omega) only [go_sem, hcpd, hs]
        refine ⟨_, c_swarfref02_Sign _, ?_⟩
        refine hK27 _ ?_
        simp (disch := omega) only [go_sem, hcpd, hs]
        refine hK26 _ ?_
        clear hK27 K27 hK26 K26
        refine pwp_ret ?_
        refine ⟨Or.inr rfl, ?_⟩
        simp (disch := omega) only [go_sem]
        all_goals simp_all [vldP]
  · have hbd := decide_eq_false hb0
    have hed := decide_eq_true he0
    refine pwx_sr 0 [some 33, some 34, some 35, some 36, some 37, some 38, some 39, some 40, some 41, some 42] (by rfl) (fun K28 hK28 => ?_)
    refine rgnX_take 3 (fun K29 hK29 => ?_)
    simp (disch := omega) only [go_sem, hbd, hed]
    refine ⟨_, c_swarfref02_Sign _, ?_⟩
    refine hK29 _ ?_
    refine rgnX_take 5 (fun K30 hK30 => ?_)
    simp (disch := omega) only [go_sem, hbd, hed]
    first | refine ⟨_, c_swarfref02_Sign _, ?_⟩ | skip
    refine hK30 _ ?_
    simp (disch := omega) only [go_sem, hbd, hed]
    refine hK28 _ ?_
    clear hK30 K30 hK29 K29 hK28 K28
    refine pwp_cond (b := false) (by rfl) (fun h => nomatch h) (fun _ => ?_)
    refine pwp_skip ?_
    refine n_then ?_
    rcases hs : sqB c with _ | _
    · refine pwx_sr 1 [] (by rfl) (fun K31 hK31 => ?_)
      refine rgnX_take 3 (fun K32 hK32 => ?_)
      simp (disch := omega) only [go_sem]
      first | refine ⟨_, c_swarfref02_Sqrt_f _ (by omega) hs, ?_⟩ | refine ⟨_, c_swarfref02_Sqrt_t _ (by omega) hs, ?_⟩
      refine hK32 _ ?_
      simp (disch := omega) only [go_sem]
      refine hK31 _ ?_
      clear hK32 K32 hK31 K31
      by_cases hcp : 0 < c
      · have hcpd := decide_eq_true hcp
        refine pwx_sr 0 [some 53, some 54, some 55, some 56, some 57, some 58, some 59, some 60, some 2] (by rfl) (fun K33 hK33 => ?_)
        refine rgnX_take 3 (fun K34 hK34 => ?_)
        simp (disch := omega) only [go_sem, hcpd, hs]
        refine ⟨_, c_swarfref02_Sign _, ?_⟩
        refine hK34 _ ?_
        simp (disch := omega) only [go_sem, hcpd, hs]
        refine hK33 _ ?_
        clear hK34 K34 hK33 K33
        refine pwp_ret ?_
        refine ⟨Or.inr rfl, ?_⟩
        simp (disch := omega) only [go_sem]
        all_goals simp_all [vldP]
      · have hcpd := decide_eq_false hcp
        refine pwx_sr 0 [some 53, some 54, some 55, some 56, some 57, some 58, some 59, some 60, some 2] (by rfl) (fun K35 hK35 => ?_)
        refine rgnX_take 3 (fun K36 hK36 => ?_)
        simp (disch := omega) only [go_sem, hcpd, hs]
        refine ⟨_, c_swarfref02_Sign _, ?_⟩
        refine hK36 _ ?_
        simp (disch := omega) only [go_sem, hcpd, hs]
        refine hK35 _ ?_
        clear hK36 K36 hK35 K35
        refine pwp_ret ?_
        refine ⟨Or.inr rfl, ?_⟩
        simp (disch := omega) only [go_sem]
        all_goals simp_all [vldP]
    · refine pwx_sr 1 [] (by rfl) (fun K37 hK37 => ?_)
      refine rgnX_take 3 (fun K38 hK38 => ?_)
      simp (disch := omega) only [go_sem]
      first | refine ⟨_, c_swarfref02_Sqrt_f _ (by omega) hs, ?_⟩ | refine ⟨_, c_swarfref02_Sqrt_t _ (by omega) hs, ?_⟩
      refine hK38 _ ?_
      simp (disch := omega) only [go_sem]
      refine hK37 _ ?_
      clear hK38 K38 hK37 K37
      by_cases hcp : 0 < c
      · have hcpd := decide_eq_true hcp
        refine pwx_sr 0 [some 53, some 54, some 55, some 56, some 57, some 58, some 59, some 60, some 2] (by rfl) (fun K39 hK39 => ?_)
        refine rgnX_take 3 (fun K40 hK40 => ?_)
        simp (disch := omega) only [go_sem, hcpd, hs]
        refine ⟨_, c_swarfref02_Sign _, ?_⟩
        refine hK40 _ ?_
        simp (disch := omega) only [go_sem, hcpd, hs]
        refine hK39 _ ?_
        clear hK40 K40 hK39 K39
        refine pwp_ret ?_
        refine ⟨Or.inr rfl, ?_⟩
        simp (disch := omega) only [go_sem]
        all_goals simp_all [vldP]
      · have hcpd := decide_eq_false hcp
        refine pwx_sr 0 [some 53, some 54, some 55, some 56, some 57, some 58, some 59, some 60, some 2] (by rfl) (fun K41 hK41 => ?_)
        refine rgnX_take 3 (fun K42 hK42 => ?_)
        simp (disch := omega) only [go_sem, hcpd, hs]
        refine ⟨_, c_swarfref02_Sign _, ?_⟩
        refine hK42 _ ?_
        simp (disch := omega) only [go_sem, hcpd, hs]
        refine hK41 _ ?_
        clear hK42 K42 hK41 K41
        refine pwp_ret ?_
        refine ⟨Or.inr rfl, ?_⟩
        simp (disch := omega) only [go_sem]
        all_goals simp_all [vldP]
  · have hbd := decide_eq_false hb0
    have hed := decide_eq_false he0
    refine pwx_sr 0 [some 33, some 34, some 35, some 36, some 37, some 38, some 39, some 40, some 41, some 42] (by rfl) (fun K43 hK43 => ?_)
    refine rgnX_take 3 (fun K44 hK44 => ?_)
    simp (disch := omega) only [go_sem, hbd, hed]
    refine ⟨_, c_swarfref02_Sign _, ?_⟩
    refine hK44 _ ?_
    refine rgnX_take 5 (fun K45 hK45 => ?_)
    simp (disch := omega) only [go_sem, hbd, hed]
    first | refine ⟨_, c_swarfref02_Sign _, ?_⟩ | skip
    refine hK45 _ ?_
    simp (disch := omega) only [go_sem, hbd, hed]
    refine hK43 _ ?_
    clear hK45 K45 hK44 K44 hK43 K43
    refine pwp_cond (b := false) (by rfl) (fun h => nomatch h) (fun _ => ?_)
    refine pwp_skip ?_
    refine n_then ?_
    rcases hs : sqB c with _ | _
    · refine pwx_sr 1 [] (by rfl) (fun K46 hK46 => ?_)
      refine rgnX_take 3 (fun K47 hK47 => ?_)
      simp (disch := omega) only [go_sem]
      first | refine ⟨_, c_swarfref02_Sqrt_f _ (by omega) hs, ?_⟩ | refine ⟨_, c_swarfref02_Sqrt_t _ (by omega) hs, ?_⟩
      refine hK47 _ ?_
      simp (disch := omega) only [go_sem]
      refine hK46 _ ?_
      clear hK47 K47 hK46 K46
      by_cases hcp : 0 < c
      · have hcpd := decide_eq_true hcp
        refine pwx_sr 0 [some 53, some 54, some 55, some 56, some 57, some 58, some 59, some 60, some 2] (by rfl) (fun K48 hK48 => ?_)
        refine rgnX_take 3 (fun K49 hK49 => ?_)
        simp (disch := omega) only [go_sem, hcpd, hs]
        refine ⟨_, c_swarfref02_Sign _, ?_⟩
        refine hK49 _ ?_
        simp (disch := omega) only [go_sem, hcpd, hs]
        refine hK48 _ ?_
        clear hK49 K49 hK48 K48
        refine pwp_ret ?_
        refine ⟨Or.inr rfl, ?_⟩
        simp (disch := omega) only [go_sem]
        all_goals simp_all [vldP]
      · have hcpd := decide_eq_false hcp
        refine pwx_sr 0 [some 53, some 54, some 55, some 56, some 57, some 58, some 59, some 60, some 2] (by rfl) (fun K50 hK50 => ?_)
        refine rgnX_take 3 (fun K51 hK51 => ?_)
        simp (disch := omega) only [go_sem, hcpd, hs]
        refine ⟨_, c_swarfref02_Sign _, ?_⟩
        refine hK51 _ ?_
        simp (disch := omega) only [go_sem, hcpd, hs]
        refine hK50 _ ?_
        clear hK51 K51 hK50 K50
        refine pwp_ret ?_
        refine ⟨Or.inr rfl, ?_⟩
        simp (disch := omega) only [go_sem]
        all_goals simp_all [vldP]
    · refine pwx_sr 1 [] (by rfl) (fun K52 hK52 => ?_)
      refine rgnX_take 3 (fun K53 hK53 => ?_)
      simp (disch := omega) only [go_sem]
      first | refine ⟨_, c_swarfref02_Sqrt_f _ (by omega) hs, ?_⟩ | refine ⟨_, c_swarfref02_Sqrt_t _ (by omega) hs, ?_⟩
      refine hK53 _ ?_
      simp (disch := omega) only [go_sem]
      refine hK52 _ ?_
      clear hK53 K53 hK52 K52
      by_cases hcp : 0 < c
      · have hcpd := decide_eq_true hcp
        refine pwx_sr 0 [some 53, some 54, some 55, some 56, some 57, some 58, some 59, some 60, some 2] (by rfl) (fun K54 hK54 => ?_)
        refine rgnX_take 3 (fun K55 hK55 => ?_)
        simp (disch := omega) only [go_sem, hcpd, hs]
        refine ⟨_, c_swarfref02_Sign _, ?_⟩
        refine hK55 _ ?_
        simp (disch := omega) only [go_sem, hcpd, hs]
        refine hK54 _ ?_
        clear hK55 K55 hK54 K54
        refine pwp_ret ?_
        refine ⟨Or.inr rfl, ?_⟩
        simp (disch := omega) only [go_sem]
        all_goals simp_all [vldP]
      · have hcpd := decide_eq_false hcp
        refine pwx_sr 0 [some 53, some 54, some 55, some 56, some 57, some 58, some 59, some 60, some 2] (by rfl) (fun K56 hK56 => ?_)
        refine rgnX_take 3 (fun K57 hK57 => ?_)
        simp (disch := omega) only [go_sem, hcpd, hs]
        refine ⟨_, c_swarfref02_Sign _, ?_⟩
        refine hK57 _ ?_
        simp (disch := omega) only [go_sem, hcpd, hs]
        refine hK56 _ ?_
        clear hK57 K57 hK56 K56
        refine pwp_ret ?_
        refine ⟨Or.inr rfl, ?_⟩
        simp (disch := omega) only [go_sem]
        all_goals simp_all [vldP]
set_option maxHeartbeats 4000000 in
theorem c_swarfref07_Small (a b d e c : Rat) (k : Nat) [SzR a k] [SzR b k] [SzR d k] [SzR e k] [SzR c k] (hk : k ≤ 2000) :
    Ret Tryz.prog 58 [.a (ratC (a) ++ (ratC (b) ++ (ratC (d) ++ (ratC (e) ++ ratC (c))))), .c (.int .i64 (k : Int))] (.e (.c (.bool (vldP b e c)))) := by
  refine ret_of_body (md := {}) Tryz.func58 (by kernel_rfl) rfl ?_
  simp only [Tryz.f58, List.map_cons, List.map_nil, List.length_cons, List.length_nil, Nat.zero_add, Nat.reduceAdd, Nat.reduceSub, List.reduceReplicate, List.cons_append, List.nil_append]
  refine pwx_sr 1 [] (by rfl) (fun K1 hK1 => ?_)
  simp (disch := omega) only [go_sem]
  refine hK1 _ ?_
  clear hK1 K1
  refine pwx_sr 0 [some 5, some 6, some 7, some 8, some 9, some 10, some 11, some 12, some 13, some 14, some 15, some 16, some 17, some 18, some 19, some 20, some 21, some 22, some 23, some 24, some 25, some 26, some 27, some 28, some 29, some 30, some 31, some 32, some 33, some 34, some 35, some 36, some 4] (by rfl) (fun K2 hK2 => ?_)
  refine rgnX_take 4 (fun K3 hK3 => ?_)
  simp (disch := omega) only [go_sem]
  refine ⟨_, c_swarfref02_SmallQ _ _ (by omega), ?_⟩
  refine hK3 _ ?_
  refine rgnX_take 5 (fun K4 hK4 => ?_)
  simp (disch := omega) only [go_sem]
  first | refine ⟨_, c_swarfref02_SmallQ _ _ (by omega), ?_⟩ | skip
  refine hK4 _ ?_
  refine rgnX_take 6 (fun K5 hK5 => ?_)
  simp (disch := omega) only [go_sem]
  first | refine ⟨_, c_swarfref02_SmallQ _ _ (by omega), ?_⟩ | skip
  refine hK5 _ ?_
  refine rgnX_take 6 (fun K6 hK6 => ?_)
  simp (disch := omega) only [go_sem]
  first | refine ⟨_, c_swarfref02_SmallQ _ _ (by omega), ?_⟩ | skip
  refine hK6 _ ?_
  refine rgnX_take 6 (fun K7 hK7 => ?_)
  simp (disch := omega) only [go_sem]
  first | refine ⟨_, c_swarfref02_SmallQ _ _ (by omega), ?_⟩ | skip
  refine hK7 _ ?_
  refine rgnX_take 4 (fun K8 hK8 => ?_)
  simp (disch := omega) only [go_sem]
  first | refine ⟨_, c_swarfref07_Valid _ _ _ _ _ (by omega), ?_⟩ | skip
  refine hK8 _ ?_
  simp (disch := omega) only [go_sem]
  refine hK2 _ ?_
  clear hK8 K8 hK7 K7 hK6 K6 hK5 K5 hK4 K4 hK3 K3 hK2 K2
  refine pwp_ret ?_
  refine ⟨Or.inr rfl, ?_⟩
  simp (disch := omega) only [go_sem]

end Go.Proofs.YtbadkjfjdkbgfaaGreat

namespace Go.PL
open Go.RL
instance : SzR 3 1 := ⟨szi_lit (by decide), szi_lit (by decide)⟩
instance : SzR 5 1 := ⟨szi_lit (by decide), szi_lit (by decide)⟩
instance : SzR 8 1 := ⟨szi_lit (by decide), szi_lit (by decide)⟩
instance : SzR (-1) 1 := ⟨szi_lit (by decide), szi_lit (by decide)⟩
theorem ex_k1 : rK 1 2 0 = 2 := by decide +kernel
theorem ex_k2 : rK 1 8 0 = 8 := by decide +kernel
theorem ex_k3 : rK 2 2 0 = 2 := by decide +kernel
theorem ex_k4 : rK 1 2 2 = 2 := by decide +kernel
theorem ex_p1 : pC 1 0 2 = 2 := by decide +kernel
theorem ex_p2 : pC 1 0 8 = 8 := by decide +kernel
theorem ex_p3 : pC 2 0 2 = 2 := by decide +kernel
theorem ex_p4 : pC 1 1 2 = 2 := by decide +kernel
theorem ex_r1 : rC 1 2 = 2 := by decide +kernel
theorem ex_r2 : rC 0 2 = 0 := by decide +kernel
theorem ex_r3 : rC (-2) 2 = 2 := by decide +kernel
theorem ex_c1 : cmpP 0 1 0 0 8 0 2 0 0 2 = 0 := by decide +kernel
theorem ex_c2 : cmpP 0 1 0 0 8 3 0 (-1) 0 0 = -1 := by decide +kernel
theorem ex_s1 : sqA 0 1 0 1 2 1 0 = 5 := by decide +kernel
theorem ex_s2 : sqB2 0 1 0 1 1 0 = -2 := by decide +kernel
theorem ex_i0 : ((0 : Int) : Rat) = 0 := rfl
theorem ex_i1 : ((1 : Int) : Rat) = 1 := rfl
theorem ex_i3 : ((3 : Int) : Rat) = 3 := rfl
theorem ex_im : ((-1 : Int) : Rat) = -1 := rfl
end Go.PL
