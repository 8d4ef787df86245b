/- The walks of the reference's roots, second part. Conditions: none.
   The walks of the reference's roots, third part. Conditions: none.
   The walks of roots. Conditions: none.
   Machine words in the walks: bits. Conditions: each lemma's own.
   The walks of intervals, first part. Conditions: none.
   Intervals in the walks: what the functions compute. Conditions: each lemma's own.
   The walks of intervals, second part. Conditions: none.
   The walks of intervals, third part. Conditions: none.
   The walks of intervals, fourth part. Conditions: none.
   The walks of intervals, fifth part. Conditions: none.
   The interval of a root in the walks. Conditions: each lemma's own.
   The walks of intervals, sixth part. Conditions: none.
   The pure layer, sixteenth part: calls that write the block to which their first argument points. Conditions: none (lemmas).
   The walks of signs of sums with two roots, first part. Conditions: none.
   Signs of sums with two roots in the walks: by intervals. Conditions: each lemma's own.
   The walks of signs of sums with two roots, second part. Conditions: none.
   Signs of sums with two roots in the walks: exact. Conditions: each lemma's own.
   The walks of signs of sums with two roots, third part. Conditions: none.
   The walks of signs of sums with two roots, fourth part. Conditions: none.
   The walks of the reference's signs of sums with two roots. Conditions: none.
   Points in the walks. Conditions: each lemma's own. -/
import Derived.Test.YtbadkjfjdkbgfaaGreatQ5
set_option linter.unusedVariables false
set_option linter.unusedSimpArgs false
set_option linter.unusedSimpArgs false
set_option linter.unusedVariables false
set_option maxRecDepth 20000
namespace Go.Proofs.YtbadkjfjdkbgfaaGreat
open Go Go.PL Go.RL
theorem c_swarfref02_Same (p q : Rat) {k l : Nat} [SzR p k] [SzR q l] (hk : k + l ≤ 400000) : Ret Tryz.prog 56 [.a (ratC p), .a (ratC q)] (.e (.c (.bool (decide (p = q))))) := by
  rw [← same_rat]
  exact c_swarfref02_Same4 p.num (p.den : Int) q.num (q.den : Int) (by omega)
theorem c_swarfref02_ValidQ (q : Rat) {k : Nat} [SzR q k] (hk : k ≤ 1000000) : Ret Tryz.prog 79 [.a (ratC q)] (.e (.c (.bool true))) := by
  have h := c_swarfref02_Valid (decide (q.num < 0)) (decide ((q.den : Int) < 0)) (limbs q.num.natAbs) (limbs ((q.den : Int)).natAbs) szi szi
  rw [vldR_rat] at h
  exact h
set_option maxHeartbeats 4000000 in
theorem c_swarfref03_Same (a b c a' b' c' : Rat) {k l m k' l' m' : Nat} [SzR a k] [SzR b l] [SzR c m] [SzR a' k'] [SzR b' l'] [SzR c' m'] (hk : k + l + m + k' + l' + m' ≤ 30000) :
    Ret Tryz.prog 16 [.a (ratC (a) ++ (ratC (b) ++ ratC (c))), .a (ratC (a') ++ (ratC (b') ++ ratC (c')))] (.e (.c (.bool (decide (a = a') && (decide (b = b') && decide (c = c')))))) := by
  refine ret_of_body (md := {}) Tryz.func16 (by kernel_rfl) rfl ?_
  simp only [Tryz.f16, List.map_cons, List.map_nil, List.length_cons, List.length_nil, Nat.zero_add, Nat.reduceAdd, Nat.reduceSub, List.reduceReplicate, List.cons_append, List.nil_append]
  refine pwx_sr 2 [] (by rfl) (fun K1 hK1 => ?_)
  simp (disch := omega) only [go_sem]
  refine hK1 _ ?_
  clear hK1 K1
  by_cases h1 : a = a' <;> by_cases h2 : b = b'
  · refine pwx_sr 0 [some 5, some 6, some 7, some 8, some 9, some 10, some 11, some 12, some 13, some 14, some 15, some 16, some 17, some 18, some 19, some 20, some 21, some 22, some 23, some 4] (by rfl) (fun K2 hK2 => ?_)
    refine rgnX_take 5 (fun K3 hK3 => ?_)
    simp (disch := omega) only [go_sem, h1, h2]
    refine ⟨_, c_swarfref02_Same _ _ (by omega), ?_⟩
    refine hK3 _ ?_
    refine rgnX_take 6 (fun K4 hK4 => ?_)
    simp (disch := omega) only [go_sem, h1, h2]
    first | refine ⟨_, c_swarfref02_Same _ _ (by omega), ?_⟩ | skip
    refine hK4 _ ?_
    refine rgnX_take 7 (fun K5 hK5 => ?_)
    simp (disch := omega) only [go_sem, h1, h2]
    first | refine ⟨_, c_swarfref02_Same _ _ (by omega), ?_⟩ | skip
    refine hK5 _ ?_
    simp (disch := omega) only [go_sem, h1, h2]
    refine hK2 _ ?_
    clear hK5 K5 hK4 K4 hK3 K3 hK2 K2
    refine pwp_ret ?_
    refine ⟨Or.inr rfl, ?_⟩
    simp (disch := omega) only [go_sem]
    all_goals simp [h1, h2]
  · refine pwx_sr 0 [some 5, some 6, some 7, some 8, some 9, some 10, some 11, some 12, some 13, some 14, some 15, some 16, some 17, some 18, some 19, some 20, some 21, some 22, some 23, some 4] (by rfl) (fun K6 hK6 => ?_)
    refine rgnX_take 5 (fun K7 hK7 => ?_)
    simp (disch := omega) only [go_sem, h1, h2]
    refine ⟨_, c_swarfref02_Same _ _ (by omega), ?_⟩
    refine hK7 _ ?_
    refine rgnX_take 6 (fun K8 hK8 => ?_)
    simp (disch := omega) only [go_sem, h1, h2]
    first | refine ⟨_, c_swarfref02_Same _ _ (by omega), ?_⟩ | skip
    refine hK8 _ ?_
    refine rgnX_take 7 (fun K9 hK9 => ?_)
    simp (disch := omega) only [go_sem, h1, h2]
    first | refine ⟨_, c_swarfref02_Same _ _ (by omega), ?_⟩ | skip
    refine hK9 _ ?_
    simp (disch := omega) only [go_sem, h1, h2]
    refine hK6 _ ?_
    clear hK9 K9 hK8 K8 hK7 K7 hK6 K6
    refine pwp_ret ?_
    refine ⟨Or.inr rfl, ?_⟩
    simp (disch := omega) only [go_sem]
    all_goals simp [h1, h2]
  · refine pwx_sr 0 [some 5, some 6, some 7, some 8, some 9, some 10, some 11, some 12, some 13, some 14, some 15, some 16, some 17, some 18, some 19, some 20, some 21, some 22, some 23, some 4] (by rfl) (fun K10 hK10 => ?_)
    refine rgnX_take 5 (fun K11 hK11 => ?_)
    simp (disch := omega) only [go_sem, h1, h2]
    refine ⟨_, c_swarfref02_Same _ _ (by omega), ?_⟩
    refine hK11 _ ?_
    refine rgnX_take 6 (fun K12 hK12 => ?_)
    simp (disch := omega) only [go_sem, h1, h2]
    first | refine ⟨_, c_swarfref02_Same _ _ (by omega), ?_⟩ | skip
    refine hK12 _ ?_
    refine rgnX_take 7 (fun K13 hK13 => ?_)
    simp (disch := omega) only [go_sem, h1, h2]
    first | refine ⟨_, c_swarfref02_Same _ _ (by omega), ?_⟩ | skip
    refine hK13 _ ?_
    simp (disch := omega) only [go_sem, h1, h2]
    refine hK10 _ ?_
    clear hK13 K13 hK12 K12 hK11 K11 hK10 K10
    refine pwp_ret ?_
    refine ⟨Or.inr rfl, ?_⟩
    simp (disch := omega) only [go_sem]
    all_goals simp [h1, h2]
  · refine pwx_sr 0 [some 5, some 6, some 7, some 8, some 9, some 10, some 11, some 12, some 13, some 14, some 15, some 16, some 17, some 18, some 19, some 20, some 21, some 22, some 23, some 4] (by rfl) (fun K14 hK14 => ?_)
    refine rgnX_take 5 (fun K15 hK15 => ?_)
    simp (disch := omega) only [go_sem, h1, h2]
    refine ⟨_, c_swarfref02_Same _ _ (by omega), ?_⟩
    refine hK15 _ ?_
    refine rgnX_take 6 (fun K16 hK16 => ?_)
    simp (disch := omega) only [go_sem, h1, h2]
    first | refine ⟨_, c_swarfref02_Same _ _ (by omega), ?_⟩ | skip
    refine hK16 _ ?_
    refine rgnX_take 7 (fun K17 hK17 => ?_)
    simp (disch := omega) only [go_sem, h1, h2]
    first | refine ⟨_, c_swarfref02_Same _ _ (by omega), ?_⟩ | skip
    refine hK17 _ ?_
    simp (disch := omega) only [go_sem, h1, h2]
    refine hK14 _ ?_
    clear hK17 K17 hK16 K16 hK15 K15 hK14 K14
    refine pwp_ret ?_
    refine ⟨Or.inr rfl, ?_⟩
    simp (disch := omega) only [go_sem]
    all_goals simp [h1, h2]
end Go.Proofs.YtbadkjfjdkbgfaaGreat

set_option linter.unusedSimpArgs false
set_option linter.unusedVariables false
set_option maxRecDepth 20000
namespace Go.Proofs.YtbadkjfjdkbgfaaGreat
open Go Go.PL Go.RL
theorem c_swarfref02_SmallQ (q : Rat) (k : Nat) [h0 : SzR q k] (hk : k ≤ 1000000) : Ret Tryz.prog 42 [.a (ratC q), .c (.int .i64 (k : Int))] (.e (.c (.bool true))) := by
  have h := c_swarfref02_Small (decide (q.num < 0)) (decide ((q.den : Int) < 0)) (limbs q.num.natAbs) (limbs ((q.den : Int)).natAbs) k hk
  rw [smlR_rat] at h
  exact h
set_option maxHeartbeats 4000000 in
theorem c_swarfref03_Of_t (x y : Int) (z d e f : Nat) (hx0 : -32768 ≤ x) (hx1 : x < 32768) (hy0 : -32768 ≤ y) (hy1 : y < 32768) (hz : z < 65536) (hd : d < 256) (he : e < 256) (hf : f < 256) (hs : sqB (Rat.divInt (z : Int) ((f + 1 : Nat) : Int)) = true) :
    Ret Tryz.prog 86 [.a [.int .i16 x, .int .i16 y, .int .u16 (z : Int), .int .u8 (d : Int), .int .u8 (e : Int), .int .u8 (f : Int)]] (.e (.a (ratC (Rat.divInt x ((d + 1 : Nat) : Int) + Rat.divInt y ((e + 1 : Nat) : Int) * rtR (Rat.divInt (z : Int) ((f + 1 : Nat) : Int))) ++ (ratC (0) ++ ratC (0))))) := by
  refine ret_of_body (md := {}) Tryz.func86 (by kernel_rfl) rfl ?_
  simp only [Tryz.f86, List.map_cons, List.map_nil, List.length_cons, List.length_nil, Nat.zero_add, Nat.reduceAdd, Nat.reduceSub, List.reduceReplicate, List.cons_append, List.nil_append]
  haveI : SzI x 3 := szi_lit (by show x.natAbs < 1000000000000000000000000000; omega)
  haveI : SzI y 3 := szi_lit (by show y.natAbs < 1000000000000000000000000000; omega)
  haveI : SzI (z : Int) 3 := szi_lit (by show z < 1000000000000000000000000000; omega)
  haveI : SzI ((d + 1 : Nat) : Int) 3 := szi_lit (by show d + 1 < 1000000000000000000000000000; omega)
  haveI : SzI ((e + 1 : Nat) : Int) 3 := szi_lit (by show e + 1 < 1000000000000000000000000000; omega)
  haveI : SzI ((f + 1 : Nat) : Int) 3 := szi_lit (by show f + 1 < 1000000000000000000000000000; omega)
  haveI : SzR (Rat.divInt x ((d + 1 : Nat) : Int)) 3 := divInt_sz3 (by omega)
  haveI : SzR (Rat.divInt y ((e + 1 : Nat) : Int)) 3 := divInt_sz3 (by omega)
  haveI : SzR (Rat.divInt (z : Int) ((f + 1 : Nat) : Int)) 3 := divInt_sz3 (by omega)
  have hc0 : ¬ Rat.divInt (z : Int) ((f + 1 : Nat) : Int) < 0 := divInt_nn (by omega) (by omega)
  refine pwx_sr 2 [] (by rfl) (fun K1 hK1 => ?_)
  simp (disch := omega) only [go_sem]
  refine hK1 _ ?_
  clear hK1 K1
  refine pwx_sr 1 [] (by rfl) (fun K2 hK2 => ?_)
  refine rgnX_take 8 (fun K3 hK3 => ?_)
  simp (disch := omega) only [go_sem]
  refine ⟨_, c_swarfref02_Frac _ _ (by omega) (by omega) (by omega) (by omega) (by omega), ?_⟩
  refine hK3 _ ?_
  simp (disch := omega) only [go_sem]
  refine hK2 _ ?_
  clear hK3 K3 hK2 K2
  refine pwx_sr 1 [] (by rfl) (fun K4 hK4 => ?_)
  refine rgnX_take 8 (fun K5 hK5 => ?_)
  simp (disch := omega) only [go_sem]
  refine ⟨_, c_swarfref02_Frac _ _ (by omega) (by omega) (by omega) (by omega) (by omega), ?_⟩
  refine hK5 _ ?_
  simp (disch := omega) only [go_sem]
  refine hK4 _ ?_
  clear hK5 K5 hK4 K4
  refine pwx_sd Tryz.mixed 1 [] (by rfl) [] (by kernel_rfl) (by simp) (fun K6 hK6 => ?_)
  refine rgnX_take 10 (fun K7 hK7 => ?_)
  simp (disch := omega) only [go_sem]
  refine ⟨_, c_swarfref02_Frac _ _ (by omega) (by omega) (by omega) (by omega) (by omega), ?_⟩
  refine hK7 _ ?_
  refine rgnX_take 1 (fun K8 hK8 => ?_)
  simp (disch := omega) only [go_sem]
  refine ⟨_, c_swarfref03_Make_t _ _ _ (by omega) hc0 hs, ?_⟩
  refine hK8 _ ?_
  simp (disch := omega) only [go_sem]
  refine hK6 _ ?_
  clear hK8 K8 hK7 K7 hK6 K6
  refine pwx_sr 0 [] (by rfl) (fun K9 hK9 => ?_)
  simp (disch := omega) only [go_sem]
  refine hK9 _ ?_
  clear hK9 K9
  refine pwp_ret ?_
  refine ⟨Or.inr rfl, ?_⟩
  simp (disch := omega) only [go_sem]
  all_goals skip
set_option maxHeartbeats 4000000 in
theorem c_swarfref03_Of_f (x y : Int) (z d e f : Nat) (hx0 : -32768 ≤ x) (hx1 : x < 32768) (hy0 : -32768 ≤ y) (hy1 : y < 32768) (hz : z < 65536) (hd : d < 256) (he : e < 256) (hf : f < 256) (hs : sqB (Rat.divInt (z : Int) ((f + 1 : Nat) : Int)) = false) :
    Ret Tryz.prog 86 [.a [.int .i16 x, .int .i16 y, .int .u16 (z : Int), .int .u8 (d : Int), .int .u8 (e : Int), .int .u8 (f : Int)]] (.e (.a (ratC (Rat.divInt x ((d + 1 : Nat) : Int)) ++ (ratC (r3B (Rat.divInt y ((e + 1 : Nat) : Int)) (Rat.divInt (z : Int) ((f + 1 : Nat) : Int))) ++ ratC (r3C (Rat.divInt y ((e + 1 : Nat) : Int)) (Rat.divInt (z : Int) ((f + 1 : Nat) : Int))))))) := by
  refine ret_of_body (md := {}) Tryz.func86 (by kernel_rfl) rfl ?_
  simp only [Tryz.f86, List.map_cons, List.map_nil, List.length_cons, List.length_nil, Nat.zero_add, Nat.reduceAdd, Nat.reduceSub, List.reduceReplicate, List.cons_append, List.nil_append]
  haveI : SzI x 3 := szi_lit (by show x.natAbs < 1000000000000000000000000000; omega)
  haveI : SzI y 3 := szi_lit (by show y.natAbs < 1000000000000000000000000000; omega)
  haveI : SzI (z : Int) 3 := szi_lit (by show z < 1000000000000000000000000000; omega)
  haveI : SzI ((d + 1 : Nat) : Int) 3 := szi_lit (by show d + 1 < 1000000000000000000000000000; omega)
  haveI : SzI ((e + 1 : Nat) : Int) 3 := szi_lit (by show e + 1 < 1000000000000000000000000000; omega)
  haveI : SzI ((f + 1 : Nat) : Int) 3 := szi_lit (by show f + 1 < 1000000000000000000000000000; omega)
  haveI : SzR (Rat.divInt x ((d + 1 : Nat) : Int)) 3 := divInt_sz3 (by omega)
  haveI : SzR (Rat.divInt y ((e + 1 : Nat) : Int)) 3 := divInt_sz3 (by omega)
  haveI : SzR (Rat.divInt (z : Int) ((f + 1 : Nat) : Int)) 3 := divInt_sz3 (by omega)
  have hc0 : ¬ Rat.divInt (z : Int) ((f + 1 : Nat) : Int) < 0 := divInt_nn (by omega) (by omega)
  refine pwx_sr 2 [] (by rfl) (fun K1 hK1 => ?_)
  simp (disch := omega) only [go_sem]
  refine hK1 _ ?_
  clear hK1 K1
  refine pwx_sr 1 [] (by rfl) (fun K2 hK2 => ?_)
  refine rgnX_take 8 (fun K3 hK3 => ?_)
  simp (disch := omega) only [go_sem]
  refine ⟨_, c_swarfref02_Frac _ _ (by omega) (by omega) (by omega) (by omega) (by omega), ?_⟩
  refine hK3 _ ?_
  simp (disch := omega) only [go_sem]
  refine hK2 _ ?_
  clear hK3 K3 hK2 K2
  refine pwx_sr 1 [] (by rfl) (fun K4 hK4 => ?_)
  refine rgnX_take 8 (fun K5 hK5 => ?_)
  simp (disch := omega) only [go_sem]
  refine ⟨_, c_swarfref02_Frac _ _ (by omega) (by omega) (by omega) (by omega) (by omega), ?_⟩
  refine hK5 _ ?_
  simp (disch := omega) only [go_sem]
  refine hK4 _ ?_
  clear hK5 K5 hK4 K4
  refine pwx_sd Tryz.mixed 1 [] (by rfl) [] (by kernel_rfl) (by simp) (fun K6 hK6 => ?_)
  refine rgnX_take 10 (fun K7 hK7 => ?_)
  simp (disch := omega) only [go_sem]
  refine ⟨_, c_swarfref02_Frac _ _ (by omega) (by omega) (by omega) (by omega) (by omega), ?_⟩
  refine hK7 _ ?_
  refine rgnX_take 1 (fun K8 hK8 => ?_)
  simp (disch := omega) only [go_sem]
  refine ⟨_, c_swarfref03_Make_f _ _ _ (by omega) hc0 hs, ?_⟩
  refine hK8 _ ?_
  simp (disch := omega) only [go_sem]
  refine hK6 _ ?_
  clear hK8 K8 hK7 K7 hK6 K6
  refine pwx_sr 0 [] (by rfl) (fun K9 hK9 => ?_)
  simp (disch := omega) only [go_sem]
  refine hK9 _ ?_
  clear hK9 K9
  refine pwp_ret ?_
  refine ⟨Or.inr rfl, ?_⟩
  simp (disch := omega) only [go_sem]
  all_goals skip

end Go.Proofs.YtbadkjfjdkbgfaaGreat

set_option linter.unusedSimpArgs false
set_option linter.unusedVariables false
set_option maxRecDepth 20000
namespace Go.Proofs.YtbadkjfjdkbgfaaGreat
open Go Go.PL Go.RL
set_option maxHeartbeats 4000000 in
theorem c_root_zero :
    Ret Tryz.prog 170 [] (.e (.a (ratC 0))) := by
  refine ret_of_body (md := {}) Tryz.func170 (by kernel_rfl) rfl ?_
  simp only [Tryz.f170, List.map_cons, List.map_nil, List.length_cons, List.length_nil, Nat.zero_add, Nat.reduceAdd, Nat.reduceSub, List.reduceReplicate, List.cons_append, List.nil_append]
  refine pwx_sr 1 [] (by rfl) (fun K1 hK1 => ?_)
  simp (disch := omega) only [go_sem]
  refine hK1 _ ?_
  clear hK1 K1
  refine pwx_sr 0 [] (by rfl) (fun K2 hK2 => ?_)
  refine rgnX_take 1 (fun K3 hK3 => ?_)
  simp (disch := omega) only [go_sem]
  refine ⟨_, c_rational_FromInt64 _ (by omega) (by omega), ?_⟩
  refine hK3 _ ?_
  simp (disch := omega) only [go_sem]
  refine hK2 _ ?_
  clear hK3 K3 hK2 K2
  refine pwp_ret ?_
  refine ⟨Or.inr rfl, ?_⟩
  simp (disch := omega) only [go_sem]
  all_goals rfl
set_option maxHeartbeats 4000000 in
theorem c_root_reduced (a b c : Rat) :
    Ret Tryz.prog 157 [.a (ratC a), .a (ratC b), .a (ratC c)] (.e (.a (ratC (a) ++ (ratC (b) ++ ratC (rC b c))))) := by
  refine ret_of_body (md := {}) Tryz.func157 (by kernel_rfl) rfl ?_
  simp only [Tryz.f157, List.map_cons, List.map_nil, List.length_cons, List.length_nil, Nat.zero_add, Nat.reduceAdd, Nat.reduceSub, List.reduceReplicate, List.cons_append, List.nil_append]
  refine pwx_sr 4 [] (by rfl) (fun K1 hK1 => ?_)
  simp (disch := omega) only [go_sem]
  refine hK1 _ ?_
  clear hK1 K1
  refine pwp_seq ?_
  refine pwx_sr 0 [] (by rfl) (fun K2 hK2 => ?_)
  refine rgnX_take 2 (fun K3 hK3 => ?_)
  simp (disch := omega) only [go_sem]
  refine ⟨_, c_rational_Sign _, ?_⟩
  refine hK3 _ ?_
  simp (disch := omega) only [go_sem]
  refine hK2 _ ?_
  clear hK3 K3 hK2 K2
  refine pwp_cond (b := _) (by rfl) (fun hb0 => ?_) (fun hb0 => ?_)
  · first | replace hb0 := of_decide_eq_true hb0 | replace hb0 := of_decide_eq_false hb0 | skip
    refine pwx_region 0 [] (by rfl) (fun K4 hK4 => ?_)
    refine rgnX_take 1 (fun K5 hK5 => ?_)
    simp (disch := omega) only [go_sem]
    refine ⟨_, c_root_zero, ?_⟩
    refine hK5 _ ?_
    simp (disch := omega) only [go_sem]
    refine hK4 _ ?_
    clear hK5 K5 hK4 K4
    refine n_then ?_
    refine pwx_sr 0 [] (by rfl) (fun K6 hK6 => ?_)
    simp (disch := omega) only [go_sem]
    refine hK6 _ ?_
    clear hK6 K6
    refine pwp_ret ?_
    refine ⟨Or.inr rfl, ?_⟩
    simp (disch := omega) only [go_sem]
    all_goals first | rfl | (exfalso; simp_all; done) | simp_all [r3B, r3C, rC, rK, r3S, sgnQ_eqz, sgnQ_gtz, sgnQ_ltz, Rat.sub_eq_add_neg]
  · first | replace hb0 := of_decide_eq_true hb0 | replace hb0 := of_decide_eq_false hb0 | skip
    refine pwp_skip ?_
    refine n_then ?_
    refine pwx_sr 0 [] (by rfl) (fun K7 hK7 => ?_)
    simp (disch := omega) only [go_sem]
    refine hK7 _ ?_
    clear hK7 K7
    refine pwp_ret ?_
    refine ⟨Or.inr rfl, ?_⟩
    simp (disch := omega) only [go_sem]
    all_goals first | rfl | (exfalso; simp_all; done) | simp_all [r3B, r3C, rC, rK, r3S, sgnQ_eqz, sgnQ_gtz, sgnQ_ltz, Rat.sub_eq_add_neg]
set_option maxHeartbeats 4000000 in
theorem c_root_Scale (a b c n : Rat) {k l m o : Nat} [SzR a k] [SzR b l] [SzR c m] [SzR n o] (hk : k + l + m + o ≤ 20000) :
    Ret Tryz.prog 129 [.a (ratC (a) ++ (ratC (b) ++ ratC (c))), .a (ratC n)] (.e (.a (ratC (a * n) ++ (ratC (b * n) ++ ratC (rC (b * n) c))))) := by
  refine ret_of_body (md := {}) Tryz.func129 (by kernel_rfl) rfl ?_
  simp only [Tryz.f129, List.map_cons, List.map_nil, List.length_cons, List.length_nil, Nat.zero_add, Nat.reduceAdd, Nat.reduceSub, List.reduceReplicate, List.cons_append, List.nil_append]
  refine pwx_sr 3 [] (by rfl) (fun K1 hK1 => ?_)
  simp (disch := omega) only [go_sem]
  refine hK1 _ ?_
  clear hK1 K1
  refine pwx_sd Tryz.mixed 0 [] (by rfl) [] (by kernel_rfl) (by simp) (fun K2 hK2 => ?_)
  refine rgnX_take 4 (fun K3 hK3 => ?_)
  simp (disch := omega) only [go_sem]
  refine ⟨_, c_rational_Mul _ _ (by omega), ?_⟩
  refine hK3 _ ?_
  refine rgnX_take 4 (fun K4 hK4 => ?_)
  simp (disch := omega) only [go_sem]
  refine ⟨_, c_rational_Mul _ _ (by omega), ?_⟩
  refine hK4 _ ?_
  refine rgnX_take 3 (fun K5 hK5 => ?_)
  simp (disch := omega) only [go_sem]
  refine ⟨_, c_root_reduced _ _ _, ?_⟩
  refine hK5 _ ?_
  simp (disch := omega) only [go_sem]
  refine hK2 _ ?_
  clear hK5 K5 hK4 K4 hK3 K3 hK2 K2
  refine pwp_ret ?_
  refine ⟨Or.inr rfl, ?_⟩
  simp (disch := omega) only [go_sem]
  all_goals first | rfl | (exfalso; simp_all; done) | simp_all [r3B, r3C, rC, rK, r3S, sgnQ_eqz, sgnQ_gtz, sgnQ_ltz, Rat.sub_eq_add_neg]

end Go.Proofs.YtbadkjfjdkbgfaaGreat

namespace Go.PL
theorem bv_and (n m : Nat) (hn : n < 18446744073709551616) (hm : m < 18446744073709551616) : (BitVec.ofInt IntKind.u64.bits (n : Int) &&& BitVec.ofInt IntKind.u64.bits (m : Int)).toNat = n &&& m := by
  show (BitVec.ofInt 64 (n : Int) &&& BitVec.ofInt 64 (m : Int)).toNat = n &&& m
  rw [BitVec.toNat_and, BitVec.ofInt_natCast, BitVec.ofInt_natCast, BitVec.toNat_ofNat, BitVec.toNat_ofNat]
  rw [Nat.mod_eq_of_lt (by omega), Nat.mod_eq_of_lt (by omega)]
theorem bv_or (n m : Nat) (hn : n < 18446744073709551616) (hm : m < 18446744073709551616) : (BitVec.ofInt IntKind.u64.bits (n : Int) ||| BitVec.ofInt IntKind.u64.bits (m : Int)).toNat = n ||| m := by
  show (BitVec.ofInt 64 (n : Int) ||| BitVec.ofInt 64 (m : Int)).toNat = n ||| m
  rw [BitVec.toNat_or, BitVec.ofInt_natCast, BitVec.ofInt_natCast, BitVec.toNat_ofNat, BitVec.toNat_ofNat]
  rw [Nat.mod_eq_of_lt (by omega), Nat.mod_eq_of_lt (by omega)]
theorem and32 {n : Nat} (hn : n < 18446744073709551616) : (BitVec.ofInt 64 (n : Int) &&& BitVec.ofInt 64 4294967295).toNat = n % 4294967296 := by
  have h := bv_and n 4294967295 hn (by omega)
  have e : n &&& 4294967295 = n % 4294967296 := Nat.and_two_pow_sub_one_eq_mod n 32
  rw [e] at h
  exact h
theorem and16 {n : Nat} (hn : n < 18446744073709551616) : (BitVec.ofInt 64 (n : Int) &&& BitVec.ofInt 64 65535).toNat = n % 65536 := by
  have h := bv_and n 65535 hn (by omega)
  have e : n &&& 65535 = n % 65536 := Nat.and_two_pow_sub_one_eq_mod n 16
  rw [e] at h
  exact h
theorem or64 {n m : Nat} (hn : n < 18446744073709551616) (hm : m < 18446744073709551616) : (BitVec.ofInt 64 (n : Int) ||| BitVec.ofInt 64 (m : Int)).toNat = n ||| m := bv_or n m hn hm
theorem shr32 (n : Nat) : (n : Int).fdiv (2 ^ min 32 64) = ((n / 4294967296 : Nat) : Int) := by
  have h : (2 : Int) ^ min 32 64 = 4294967296 := by decide
  rw [h, Int.fdiv_eq_ediv_of_nonneg _ (by omega)]; rfl
theorem shr16 (n : Nat) : (n : Int).fdiv (2 ^ min 16 64) = ((n / 65536 : Nat) : Int) := by
  have h : (2 : Int) ^ min 16 64 = 65536 := by decide
  rw [h, Int.fdiv_eq_ediv_of_nonneg _ (by omega)]; rfl
theorem shl48 (n : Nat) : (n : Int) * 2 ^ min 48 64 = ((n * 281474976710656 : Nat) : Int) := by
  have h : (2 : Int) ^ min 48 64 = 281474976710656 := by decide
  rw [h, Int.natCast_mul]; rfl
theorem wu64_any (n : Nat) : IntKind.u64.wrap (n : Int) = ((n % 18446744073709551616 : Nat) : Int) := by
  unfold IntKind.wrap
  have e : (n : Int) % (2 ^ IntKind.u64.bits : Int) = ((n % 18446744073709551616 : Nat) : Int) := by
    have : (2 ^ IntKind.u64.bits : Int) = ((18446744073709551616 : Nat) : Int) := by decide
    rw [this, Int.natCast_emod]
  simp only [e]
  rw [if_neg]
  simp [IntKind.bits, IntKind.signed]
theorem binI_and32 {n : Nat} (hn : n < 18446744073709551616) : binI .and .u64 (n : Int) 4294967295 = some (.int .u64 ((n % 4294967296 : Nat) : Int)) := by
  have h := and32 hn
  have e : binI .and .u64 (n : Int) 4294967295 = some (.int .u64 (IntKind.u64.wrap (((BitVec.ofInt 64 (n : Int) &&& BitVec.ofInt 64 4294967295).toNat : Nat) : Int))) := rfl
  rw [e, h, wu64 (by omega)]
theorem binI_and16 {n : Nat} (hn : n < 18446744073709551616) : binI .and .u64 (n : Int) 65535 = some (.int .u64 ((n % 65536 : Nat) : Int)) := by
  have h := and16 hn
  have e : binI .and .u64 (n : Int) 65535 = some (.int .u64 (IntKind.u64.wrap (((BitVec.ofInt 64 (n : Int) &&& BitVec.ofInt 64 65535).toNat : Nat) : Int))) := rfl
  rw [e, h, wu64 (by omega)]
theorem binI_or {n m : Nat} (hn : n < 18446744073709551616) (hm : m < 18446744073709551616) : binI .or .u64 (n : Int) (m : Int) = some (.int .u64 ((n ||| m : Nat) : Int)) := by
  have h := or64 hn hm
  have e : binI .or .u64 (n : Int) (m : Int) = some (.int .u64 (IntKind.u64.wrap (((BitVec.ofInt 64 (n : Int) ||| BitVec.ofInt 64 (m : Int)).toNat : Nat) : Int))) := rfl
  rw [e, h, wu64 (Nat.or_lt_two_pow (n := 64) (by omega) (by omega))]
attribute [go_sem ↓ high] binI_and32 binI_and16 binI_or
attribute [go_sem] shr32 shr16 shl48
theorem mul_lt32 {a b : Nat} (ha : a < 4294967296) (hb : b < 4294967296) : a * b ≤ 18446744065119617025 := by
  have := Nat.mul_le_mul (show a ≤ 4294967295 by omega) (show b ≤ 4294967295 by omega)
  omega
/-- The product of two words, by halves. -/
theorem mul64_hi {x y x0 x1 y0 y1 w0 t w1 hi : Nat} (hx0 : x0 = x % 4294967296) (hx1 : x1 = x / 4294967296) (hy0 : y0 = y % 4294967296) (hy1 : y1 = y / 4294967296)
    (hw0 : w0 = x0 * y0) (ht : t = x1 * y0 + w0 / 4294967296) (hw1 : w1 = t % 4294967296 + x0 * y1) (hhi : hi = x1 * y1 + t / 4294967296 + w1 / 4294967296) : hi = x * y / 18446744073709551616 := by
  have ex : x = x1 * 4294967296 + x0 := by omega
  have ey : y = y1 * 4294967296 + y0 := by omega
  have hp : x * y = x1 * y1 * 18446744073709551616 + (x1 * y0 + x0 * y1) * 4294967296 + w0 := by rw [ex, ey, hw0]; grind
  rw [hp]
  have e1 := Nat.div_add_mod w0 4294967296
  have e2 := Nat.div_add_mod t 4294967296
  have e3 := Nat.div_add_mod w1 4294967296
  generalize x1 * y1 = p11 at *
  generalize x1 * y0 = p10 at *
  generalize x0 * y1 = p01 at *
  omega
end Go.PL

set_option linter.unusedSimpArgs false
set_option linter.unusedVariables false
set_option maxRecDepth 20000
namespace Go.Proofs.YtbadkjfjdkbgfaaGreat
open Go Go.PL Go.RL
set_option maxHeartbeats 4000000 in
theorem c_bits_Mul64 (x y : Nat) (hx : x < 18446744073709551616) (hy : y < 18446744073709551616) :
    Ret Tryz.prog 175 [.c (.int .u64 (x : Int)), .c (.int .u64 (y : Int))] (.t [.c (.int .u64 ((x * y / 18446744073709551616 : Nat) : Int)), .c (.int .u64 ((x * y % 18446744073709551616 : Nat) : Int))]) := by
  refine ret_of_body (md := {}) Tryz.func175 (by kernel_rfl) rfl ?_
  simp only [Tryz.f175, List.map_cons, List.map_nil, List.length_cons, List.length_nil, Nat.zero_add, Nat.reduceAdd, Nat.reduceSub, List.reduceReplicate, List.cons_append, List.nil_append]
  have hx0 := Nat.mod_lt x (show 0 < 4294967296 by omega)
  have hy0 := Nat.mod_lt y (show 0 < 4294967296 by omega)
  have hx1 : x / 4294967296 < 4294967296 := by omega
  have hy1 : y / 4294967296 < 4294967296 := by omega
  have b00 := mul_lt32 hx0 hy0
  have b10 := mul_lt32 hx1 hy0
  have b01 := mul_lt32 hx0 hy1
  have b11 := mul_lt32 hx1 hy1
  refine pwx_sr 0 [] (by rfl) (fun K1 hK1 => ?_)
  simp (disch := omega) only [go_sem]
  refine hK1 _ ?_
  clear hK1 K1
  refine pwx_sr 0 [] (by rfl) (fun K2 hK2 => ?_)
  simp (disch := omega) only [go_sem]
  refine hK2 _ ?_
  clear hK2 K2
  refine pwx_sr 0 [] (by rfl) (fun K3 hK3 => ?_)
  simp (disch := omega) only [go_sem]
  refine hK3 _ ?_
  clear hK3 K3
  refine pwx_sr 0 [] (by rfl) (fun K4 hK4 => ?_)
  simp (disch := omega) only [go_sem]
  refine hK4 _ ?_
  clear hK4 K4
  refine pwx_sr 0 [] (by rfl) (fun K5 hK5 => ?_)
  simp (disch := omega) only [go_sem]
  refine hK5 _ ?_
  clear hK5 K5
  refine pwx_sr 0 [] (by rfl) (fun K6 hK6 => ?_)
  simp (disch := omega) only [go_sem]
  refine hK6 _ ?_
  clear hK6 K6
  refine pwx_sr 0 [] (by rfl) (fun K7 hK7 => ?_)
  simp (disch := omega) only [go_sem]
  refine hK7 _ ?_
  clear hK7 K7
  refine pwx_sr 0 [] (by rfl) (fun K8 hK8 => ?_)
  simp (disch := omega) only [go_sem]
  refine hK8 _ ?_
  clear hK8 K8
  refine pwx_sr 0 [] (by rfl) (fun K9 hK9 => ?_)
  simp (disch := omega) only [go_sem]
  refine hK9 _ ?_
  clear hK9 K9
  refine pwx_sr 0 [] (by rfl) (fun K10 hK10 => ?_)
  simp (disch := omega) only [go_sem]
  refine hK10 _ ?_
  clear hK10 K10
  refine pwx_sr 0 [] (by rfl) (fun K11 hK11 => ?_)
  simp (disch := omega) only [go_sem]
  refine hK11 _ ?_
  clear hK11 K11
  refine pwx_sr 0 [] (by rfl) (fun K12 hK12 => ?_)
  simp (disch := omega) only [go_sem]
  refine hK12 _ ?_
  clear hK12 K12
  refine pwp_ret ?_
  refine ⟨Or.inr rfl, ?_⟩
  simp (disch := omega) only [go_sem]
  have e := mul64_hi (x := x) (y := y) rfl rfl rfl rfl rfl rfl rfl rfl; rw [e, wu64_any]; exact ⟨rfl, rfl⟩

end Go.Proofs.YtbadkjfjdkbgfaaGreat

namespace Go.PL
open Go.RL

/-- An interval, and whether there is one. -/
structure Iv where
  lo : Int
  hi : Int
  ok : Bool
/-- No interval. -/
def Iv.no : Iv := ⟨0, 0, false⟩
/-- Ends that are not too great. -/
structure Iv.Bd (i : Iv) : Prop where
  a : -2305843009213693952 ≤ i.lo
  b : i.lo ≤ i.hi
  c : i.hi ≤ 2305843009213693952
theorem Iv.Bd.no : Iv.Bd Iv.no := ⟨by simp [Iv.no], by simp [Iv.no], by simp [Iv.no]⟩
/-- proper -/
def prF (lo hi : Int) : Iv := if lo < -2305843009213693952 ∨ 2305843009213693952 < hi then Iv.no else ⟨lo, hi, true⟩
theorem prF_n {lo hi : Int} (h : lo < -2305843009213693952 ∨ 2305843009213693952 < hi) : prF lo hi = Iv.no := if_pos h
theorem prF_y {lo hi : Int} (h : ¬ lo < -2305843009213693952) (h' : ¬ 2305843009213693952 < hi) : prF lo hi = ⟨lo, hi, true⟩ := if_neg (by omega)
theorem prF_bd {lo hi : Int} (h : lo ≤ hi) : (prF lo hi).Bd := by
  unfold prF; split
  · exact Iv.Bd.no
  · exact ⟨by simp only; omega, h, by simp only; omega⟩
theorem prF_ok {lo hi : Int} (h : (prF lo hi).ok = true) : (prF lo hi).lo = lo ∧ (prF lo hi).hi = hi := by
  unfold prF at h ⊢; split
  · rename_i c; rw [if_pos c] at h; cases h
  · exact ⟨rfl, rfl⟩
/-- FromRat -/
def frF (a : Rat) : Iv :=
  if fit64 (a * 65536).floor = true ∧ fit64 (-(-(a * 65536)).floor) = true then prF (a * 65536).floor (-(-(a * 65536)).floor) else Iv.no
theorem fl_le (q : Rat) : (q.floor : Rat) ≤ q := Rat.floor_le q
theorem lt_fl (q : Rat) : q < (q.floor : Rat) + 1 := by
  have := Rat.lt_floor_add_one q
  simpa using this
theorem fl_mono2 (q : Rat) : q.floor ≤ -(-q).floor := by
  have h1 := fl_le q
  have h2 := fl_le (-q)
  have h3 : (q.floor : Rat) + ((-q).floor : Rat) ≤ 0 := by grind
  have h4 : ((q.floor + (-q).floor : Int) : Rat) ≤ ((0 : Int) : Rat) := by rw [Rat.intCast_add]; exact h3
  have := Rat.intCast_le_intCast.1 h4
  omega
theorem frF_bd (a : Rat) : (frF a).Bd := by
  unfold frF; split
  · exact prF_bd (fl_mono2 _)
  · exact Iv.Bd.no
theorem frF_ok {a : Rat} (h : (frF a).ok = true) : inI (frF a).lo (frF a).hi (Re.of a) := by
  unfold frF at h ⊢
  split
  · rename_i c
    rw [if_pos c] at h
    obtain ⟨e1, e2⟩ := prF_ok h
    rw [e1, e2]
    refine inI_of (fl_le _) ?_
    have := fl_le (-(a * 65536))
    rw [Rat.intCast_neg]
    grind
  · rename_i c; rw [if_neg c] at h; cases h
/-- Add -/
def adF (i j : Iv) : Iv := prF (i.lo + j.lo) (i.hi + j.hi)
theorem adF_bd {i j : Iv} (h : i.Bd) (h' : j.Bd) : (adF i j).Bd := prF_bd (by have := h.b; have := h'.b; omega)
theorem adF_ok {i j : Iv} {x y : Re} (h : (adF i j).ok = true) (hx : inI i.lo i.hi x) (hy : inI j.lo j.hi y) : inI (adF i j).lo (adF i j).hi (x + y) := by
  obtain ⟨e1, e2⟩ := prF_ok h
  unfold adF
  rw [e1, e2]
  exact inI_add hx hy
/-- root's exactness, and the upper end. -/
def upF (H : Int) : Int := if sqrtI (H * 65536) * sqrtI (H * 65536) = H * 65536 then sqrtI (H * 65536) else sqrtI (H * 65536) + 1
/-- Sqrt -/
def sqF (i : Iv) : Iv := if i.hi < 0 then Iv.no else prF (sqrtI ((if i.lo < 0 then 0 else i.lo) * 65536)) (upF i.hi)
theorem sqrtI_facts {z : Int} (h : 0 ≤ z) : 0 ≤ sqrtI z ∧ sqrtI z * sqrtI z ≤ z ∧ z < (sqrtI z + 1) * (sqrtI z + 1) := by
  obtain ⟨n, rfl⟩ := Int.eq_ofNat_of_zero_le h
  rw [sqrtI_nat]
  refine ⟨by omega, ?_, ?_⟩
  · have := Nat.sqrt_le n
    exact_mod_cast this
  · have := Nat.lt_succ_sqrt n
    exact_mod_cast this
theorem sq_mono {a b : Int} (ha : 0 ≤ a) (h : a * a ≤ b * b) (hb : 0 ≤ b) : a ≤ b := by
  rcases Int.lt_or_le b a with c | c
  · exfalso
    have h1 : b * b ≤ b * a := Int.mul_le_mul_of_nonneg_left (by omega) hb
    have h2 : b * a < a * a := Int.mul_lt_mul_of_pos_right c (by omega)
    omega
  · exact c
theorem upF_facts {H : Int} (h : 0 ≤ H) : 0 ≤ upF H ∧ H * 65536 ≤ upF H * upF H := by
  obtain ⟨h1, h2, h3⟩ := sqrtI_facts (show 0 ≤ H * 65536 by omega)
  unfold upF
  split
  · exact ⟨h1, by omega⟩
  · exact ⟨by omega, by omega⟩
theorem sqF_bd {i : Iv} (h : i.Bd) : (sqF i).Bd := by
  unfold sqF; split
  · exact Iv.Bd.no
  · rename_i hn
    obtain ⟨u1, u2⟩ := upF_facts (show 0 ≤ i.hi by omega)
    have hb := h.b
    have hm : 0 ≤ (if i.lo < 0 then 0 else i.lo) ∧ (if i.lo < 0 then 0 else i.lo) ≤ i.hi := by split <;> omega
    generalize (if i.lo < 0 then 0 else i.lo) = m at hm ⊢
    obtain ⟨s1, s2, s3⟩ := sqrtI_facts (z := m * 65536) (by omega)
    exact prF_bd (sq_mono s1 (by omega) u1)
theorem sqF_ok {i : Iv} {q : Rat} (hq : 0 ≤ q) (h : (sqF i).ok = true) (hx : inI i.lo i.hi (Re.of q)) : inI (sqF i).lo (sqF i).hi (rt q) := by
  unfold sqF at h ⊢
  split
  · rename_i c; rw [if_pos c] at h; cases h
  · rename_i c
    rw [if_neg c] at h
    obtain ⟨e1, e2⟩ := prF_ok h
    rw [e1, e2]
    obtain ⟨u1, u2⟩ := upF_facts (show 0 ≤ i.hi by omega)
    obtain ⟨s1, s2, s3⟩ := sqrtI_facts (z := (if i.lo < 0 then 0 else i.lo) * 65536) (by split <;> omega)
    refine inI_sqrt hq hx s1 ?_ u1 u2
    have : (if i.lo < 0 then 0 else i.lo) = max i.lo 0 := by split <;> omega
    rw [this] at s2 ⊢; exact s2
/-- scaled -/
def scF (x y : Int) : Iv :=
  if x.natAbs * y.natAbs / 18446744073709551616 / 65536 ≠ 0 then Iv.no else
  if 2305843009213693952 < x.natAbs * y.natAbs / 65536 then Iv.no else
  let q : Int := (x.natAbs * y.natAbs / 65536 : Nat)
  let h : Int := if x.natAbs * y.natAbs % 18446744073709551616 % 65536 ≠ 0 then q + 1 else q
  if (decide (x < 0) != decide (y < 0)) = true then ⟨-h, -q, decide (-2305843009213693952 ≤ -h) && decide (-q ≤ 2305843009213693952)⟩
  else ⟨q, h, decide (-2305843009213693952 ≤ q) && decide (h ≤ 2305843009213693952)⟩
theorem abs_mul (x y : Int) : ((x.natAbs * y.natAbs : Nat) : Int) = if (decide (x < 0) != decide (y < 0)) = true then -(x * y) else x * y := by
  have h := sg_mul x y
  by_cases c : (decide (x < 0) != decide (y < 0)) = true
  · rw [if_pos c, ← h]; rw [c]; simp [sg]
  · rw [if_neg c, ← h]; simp only [Bool.not_eq_true] at c; rw [c]; simp [sg]
theorem scF_ok {x y : Int} (h : (scF x y).ok = true) : (scF x y).lo * 65536 ≤ x * y ∧ x * y ≤ (scF x y).hi * 65536 ∧ -2305843009213693952 ≤ (scF x y).lo ∧ (scF x y).lo ≤ (scF x y).hi ∧ (scF x y).hi ≤ 2305843009213693952 := by
  have hm := abs_mul x y
  unfold scF at h ⊢
  generalize x.natAbs * y.natAbs = P at *
  split
  · rename_i c; rw [if_pos c] at h; cases h
  · rename_i c1
    rw [if_neg c1] at h
    split
    · rename_i c; rw [if_pos c] at h; cases h
    · rename_i c2
      rw [if_neg c2] at h
      simp only at h ⊢
      generalize x * y = Z at *
      split
      · rename_i c3
        rw [if_pos c3] at h hm
        simp only [Bool.and_eq_true, decide_eq_true_eq] at h ⊢
        split at h <;> omega
      · rename_i c3
        rw [if_neg c3] at h hm
        simp only [Bool.and_eq_true, decide_eq_true_eq] at h ⊢
        split at h <;> omega
/-- Mul's pairs. -/
def prs (i j : Iv) : Nat → Iv
  | 0 => scF i.lo j.lo
  | 1 => scF i.lo j.hi
  | 2 => scF i.hi j.lo
  | _ => scF i.hi j.hi
def mlo (i j : Iv) : Nat → Int
  | 0 => 2305843009213693952
  | n + 1 => if (prs i j n).lo < mlo i j n then (prs i j n).lo else mlo i j n
def mhi (i j : Iv) : Nat → Int
  | 0 => -2305843009213693952
  | n + 1 => if mhi i j n < (prs i j n).hi then (prs i j n).hi else mhi i j n
/-- Mul -/
def muF (i j : Iv) : Iv := if (prs i j 0).ok = true ∧ (prs i j 1).ok = true ∧ (prs i j 2).ok = true ∧ (prs i j 3).ok = true then ⟨mlo i j 4, mhi i j 4, true⟩ else Iv.no
theorem mlo_le (i j : Iv) (n : Nat) : mlo i j (n + 1) ≤ (prs i j n).lo ∧ mlo i j (n + 1) ≤ mlo i j n := by
  simp only [mlo]; split <;> omega
theorem mhi_ge (i j : Iv) (n : Nat) : (prs i j n).hi ≤ mhi i j (n + 1) ∧ mhi i j n ≤ mhi i j (n + 1) := by
  simp only [mhi]; split <;> omega
theorem mlo_bd (i j : Iv) (n : Nat) (h : ∀ k, k < n → -2305843009213693952 ≤ (prs i j k).lo) : -2305843009213693952 ≤ mlo i j n := by
  induction n with
  | zero => simp [mlo]
  | succ n ih =>
    have h1 := ih fun k hk => h k (by omega)
    have h2 := h n (by omega)
    simp only [mlo]; split <;> omega
theorem mhi_bd (i j : Iv) (n : Nat) (h : ∀ k, k < n → (prs i j k).hi ≤ 2305843009213693952) : mhi i j n ≤ 2305843009213693952 := by
  induction n with
  | zero => simp [mhi]
  | succ n ih =>
    have h1 := ih fun k hk => h k (by omega)
    have h2 := h n (by omega)
    simp only [mhi]; split <;> omega
theorem muF_facts {i j : Iv} (h : (prs i j 0).ok = true ∧ (prs i j 1).ok = true ∧ (prs i j 2).ok = true ∧ (prs i j 3).ok = true) :
    (∀ k, k < 4 → (prs i j k).ok = true) ∧ (∀ k, k < 4 → mlo i j 4 ≤ (prs i j k).lo ∧ (prs i j k).hi ≤ mhi i j 4) := by
  obtain ⟨h0, h1, h2, h3⟩ := h
  refine ⟨fun k hk => ?_, fun k hk => ?_⟩
  · match k, hk with
    | 0, _ => exact h0
    | 1, _ => exact h1
    | 2, _ => exact h2
    | 3, _ => exact h3
  · have a0 := mlo_le i j 0; have a1 := mlo_le i j 1; have a2 := mlo_le i j 2; have a3 := mlo_le i j 3
    have b0 := mhi_ge i j 0; have b1 := mhi_ge i j 1; have b2 := mhi_ge i j 2; have b3 := mhi_ge i j 3
    simp only [Nat.reduceAdd, prs] at a0 a1 a2 a3 b0 b1 b2 b3 ⊢
    match k, hk with
    | 0, _ => simp only; omega
    | 1, _ => simp only; omega
    | 2, _ => simp only; omega
    | 3, _ => simp only; omega
theorem muF_bd (i j : Iv) : (muF i j).Bd := by
  unfold muF; split
  · rename_i c
    obtain ⟨f1, f2⟩ := muF_facts c
    have hs : ∀ k, k < 4 → -2305843009213693952 ≤ (prs i j k).lo ∧ (prs i j k).lo ≤ (prs i j k).hi ∧ (prs i j k).hi ≤ 2305843009213693952 := fun k hk => by
      have := f1 k hk
      match k, hk with
      | 0, _ => exact (scF_ok this).2.2
      | 1, _ => exact (scF_ok this).2.2
      | 2, _ => exact (scF_ok this).2.2
      | 3, _ => exact (scF_ok this).2.2
    refine ⟨mlo_bd i j 4 fun k hk => (hs k hk).1, ?_, mhi_bd i j 4 fun k hk => (hs k hk).2.2⟩
    have := f2 0 (by omega)
    have := hs 0 (by omega)
    simp only; omega
  · exact Iv.Bd.no
theorem muF_ok {i j : Iv} {x y : Re} (h : (muF i j).ok = true) (hx : inI i.lo i.hi x) (hy : inI j.lo j.hi y) : inI (muF i j).lo (muF i j).hi (x * y) := by
  unfold muF at h ⊢
  split
  · rename_i c
    obtain ⟨f1, f2⟩ := muF_facts c
    have g0 := scF_ok (f1 0 (by omega)); have g1 := scF_ok (f1 1 (by omega)); have g2 := scF_ok (f1 2 (by omega)); have g3 := scF_ok (f1 3 (by omega))
    have e0 := f2 0 (by omega); have e1 := f2 1 (by omega); have e2 := f2 2 (by omega); have e3 := f2 3 (by omega)
    simp only [prs] at e0 e1 e2 e3
    show inI (mlo i j 4) (mhi i j 4) (x * y)
    exact inI_mul hx hy (by omega) (by omega) (by omega) (by omega) (by omega) (by omega) (by omega) (by omega)
  · rename_i c; rw [if_neg c] at h; cases h
/-- Sign -/
def siF (i : Iv) : Int × Bool := if 0 < i.lo then (1, true) else if i.hi < 0 then (-1, true) else (0, decide (i.lo = 0) && decide (i.hi = 0))
theorem siF_ok {i : Iv} {x : Re} (h : (siF i).2 = true) (hx : inI i.lo i.hi x) : (siF i).1 = sgn x := by
  unfold siF at h ⊢
  split
  · rename_i c; exact (inI_pos hx c).symm
  · rename_i c1
    rw [if_neg c1] at h
    split
    · rename_i c; exact (inI_negv hx c).symm
    · rename_i c2
      rw [if_neg c2] at h
      simp only [Bool.and_eq_true, decide_eq_true_eq] at h
      rw [h.1, h.2] at hx
      exact (inI_zero hx).symm
theorem abs_n {x : Int} (h : x < 0) (h' : -2305843009213693952 ≤ x) : IntKind.u64.wrap (0 - IntKind.u64.wrap x) = ((x.natAbs : Nat) : Int) := by
  have e : IntKind.u64.wrap x = x + 18446744073709551616 := by
    have : (2 : Int) ^ IntKind.u64.bits = 18446744073709551616 := by decide
    unfold IntKind.wrap
    simp only [this]
    rw [if_neg (by simp [IntKind.signed])]
    omega
  rw [e]
  have : (2 : Int) ^ IntKind.u64.bits = 18446744073709551616 := by decide
  unfold IntKind.wrap
  simp only [this]
  rw [if_neg (by simp [IntKind.signed])]
  omega
theorem scq {n : Nat} (h : n / 18446744073709551616 < 65536) : (n / 18446744073709551616 * 281474976710656 ||| n % 18446744073709551616 / 65536) = n / 65536 := by
  have h1 : n % 18446744073709551616 / 65536 < 2 ^ 48 := by omega
  have h2 := Nat.two_pow_add_eq_or_of_lt h1 (n / 18446744073709551616)
  rw [Nat.mul_comm, show (281474976710656 : Nat) = 2 ^ 48 by rfl, ← h2]
  omega
theorem nz_t {n : Nat} (h : (!decide ((n : Int) = 0)) = true) : n ≠ 0 := by simp only [Bool.not_eq_true', decide_eq_false_iff_not] at h; omega
theorem nz_f {n : Nat} (h : (!decide ((n : Int) = 0)) = false) : n = 0 := by simp only [Bool.not_eq_false', decide_eq_true_eq] at h; omega
theorem scF_a {x y : Int} (h : x.natAbs * y.natAbs / 18446744073709551616 / 65536 ≠ 0) : scF x y = Iv.no := if_pos h
theorem scF_b {x y : Int} (h : ¬ x.natAbs * y.natAbs / 18446744073709551616 / 65536 ≠ 0) (h' : 2305843009213693952 < x.natAbs * y.natAbs / 65536) : scF x y = Iv.no := by
  unfold scF; rw [if_neg h, if_pos h']
theorem scF_t {x y k : Int} (h : x.natAbs * y.natAbs / 18446744073709551616 / 65536 = 0) (h' : ¬ 2305843009213693952 < ((x.natAbs * y.natAbs / 65536 : Nat) : Int)) {c : Bool}
    (hc : (!decide (((x.natAbs * y.natAbs % 18446744073709551616 % 65536 : Nat) : Int) = 0)) = c) (hd : (!decide (x < 0) == decide (y < 0)) = true) (hk : (bif c then (1 : Int) else 0) = k) : (scF x y).lo = -(((x.natAbs * y.natAbs / 65536 : Nat) : Int) + k) ∧ (scF x y).hi = -((x.natAbs * y.natAbs / 65536 : Nat) : Int) ∧ (scF x y).ok = decide (((x.natAbs * y.natAbs / 65536 : Nat) : Int) + k ≤ 2305843009213693952) := by
  unfold scF
  replace hd : (decide (x < 0) != decide (y < 0)) = true := hd
  simp only [hd]
  generalize x.natAbs * y.natAbs = P at *
  rw [if_neg (by omega), if_neg (by omega)]
  have h1 : decide (-2305843009213693952 ≤ ((P / 65536 : Nat) : Int)) = true := decide_eq_true (by omega)
  have h2 : decide (-((P / 65536 : Nat) : Int) ≤ 2305843009213693952) = true := decide_eq_true (by omega)
  have hc' : (if P % 18446744073709551616 % 65536 ≠ 0 then ((P / 65536 : Nat) : Int) + 1 else ((P / 65536 : Nat) : Int)) = ((P / 65536 : Nat) : Int) + k := by
    cases c
    · have e := nz_f hc
      rw [if_neg (fun h => h e), ← hk]; simp
    · rw [if_pos (nz_t hc), ← hk]; simp
  simp only [hc']
  simp only [if_true, h2, Bool.and_true, true_and]
  exact decide_eq_decide.2 (by omega)
theorem scF_f {x y k : Int} (h : x.natAbs * y.natAbs / 18446744073709551616 / 65536 = 0) (h' : ¬ 2305843009213693952 < ((x.natAbs * y.natAbs / 65536 : Nat) : Int)) {c : Bool}
    (hc : (!decide (((x.natAbs * y.natAbs % 18446744073709551616 % 65536 : Nat) : Int) = 0)) = c) (hd : (!decide (x < 0) == decide (y < 0)) = false) (hk : (bif c then (1 : Int) else 0) = k) : (scF x y).lo = ((x.natAbs * y.natAbs / 65536 : Nat) : Int) ∧ (scF x y).hi = ((x.natAbs * y.natAbs / 65536 : Nat) : Int) + k ∧ (scF x y).ok = decide (((x.natAbs * y.natAbs / 65536 : Nat) : Int) + k ≤ 2305843009213693952) := by
  unfold scF
  replace hd : (decide (x < 0) != decide (y < 0)) = false := hd
  simp only [hd]
  generalize x.natAbs * y.natAbs = P at *
  rw [if_neg (by omega), if_neg (by omega)]
  have h1 : decide (-2305843009213693952 ≤ ((P / 65536 : Nat) : Int)) = true := decide_eq_true (by omega)
  have h2 : decide (-((P / 65536 : Nat) : Int) ≤ 2305843009213693952) = true := decide_eq_true (by omega)
  have hc' : (if P % 18446744073709551616 % 65536 ≠ 0 then ((P / 65536 : Nat) : Int) + 1 else ((P / 65536 : Nat) : Int)) = ((P / 65536 : Nat) : Int) + k := by
    cases c
    · have e := nz_f hc
      rw [if_neg (fun h => h e), ← hk]; simp
    · rw [if_pos (nz_t hc), ← hk]; simp
  simp only [hc']
  simp only [Bool.false_eq_true, if_false, h1, Bool.true_and, and_self]
theorem frF_y {a : Rat} (h1 : fit64 (a * 65536).floor = true) (h2 : fit64 (-(-(a * 65536)).floor) = true) : frF a = prF (a * 65536).floor (-(-(a * 65536)).floor) := if_pos ⟨h1, h2⟩
theorem frF_1 {a : Rat} (h1 : fit64 (a * 65536).floor = false) : frF a = Iv.no := if_neg (by rw [h1]; simp)
theorem frF_2 {a : Rat} (h1 : fit64 (-(-(a * 65536)).floor) = false) : frF a = Iv.no := if_neg (by rw [h1]; simp)
instance SzI.fl' {q : Rat} {k : Nat} [h : SzR q k] : SzI q.floor k := by rw [Rat.floor_def]; exact SzI.div'
instance : SzI 65536 1 := szi_lit (by decide)
theorem szi_61 {n : Int} (h : -2305843009213693953 ≤ n) (h' : n ≤ 2305843009213693953) : SzI n 3 := szi_lit (Nat.lt_trans (show n.natAbs < 2305843009213693954 by omega) (by decide))
theorem max0 (x : Int) : (if x < 0 then 0 else x) = max x 0 := by split <;> omega
theorem sqF_n {i : Iv} (h : i.hi < 0) : sqF i = Iv.no := if_pos h
theorem sqF_y {i : Iv} (h : ¬ i.hi < 0) {c : Bool} (hc : decide (sqrtI (i.hi * 65536) * sqrtI (i.hi * 65536) = i.hi * 65536) = c) : sqF i = prF (sqrtI ((if i.lo < 0 then 0 else i.lo) * 65536)) (bif c then sqrtI (i.hi * 65536) else sqrtI (i.hi * 65536) + 1) := by
  unfold sqF upF; rw [if_neg h]
  cases c
  · rw [if_neg (of_decide_eq_false hc)]; rfl
  · rw [if_pos (of_decide_eq_true hc)]; rfl
theorem sqrtI_61 {z : Int} (h : 0 ≤ z) (h' : z ≤ 2305843009213693952) : 0 ≤ sqrtI (z * 65536) ∧ sqrtI (z * 65536) ≤ 2305843009213693952 := by
  obtain ⟨h1, h2, h3⟩ := sqrtI_facts (show 0 ≤ z * 65536 by omega)
  refine ⟨h1, ?_⟩
  have : sqrtI (z * 65536) * sqrtI (z * 65536) ≤ 2305843009213693952 * 2305843009213693952 := by omega
  exact sq_mono h1 this (by omega)
theorem ic65536 : ((65536 : Int) : Rat) = 65536 := rfl
theorem not_t {b : Bool} (h : (!b) = true) : b = false := by cases b <;> simp_all
theorem not_f {b : Bool} (h : (!b) = false) : b = true := by cases b <;> simp_all
/-- An interval's ends, by number. -/
def sel (i : Iv) (u : Nat) : Int := if u = 0 then i.lo else i.hi
theorem sel_bd {i : Iv} (h : i.Bd) (u : Nat) : -2305843009213693952 ≤ sel i u ∧ sel i u ≤ 2305843009213693952 := by
  have := h.a; have := h.b; have := h.c
  unfold sel; split <;> omega
theorem prs_uv {i j : Iv} {u v : Nat} (hu : u < 2) (hv : v < 2) : prs i j (2 * u + v) = scF (sel i u) (sel j v) := by
  match u, hu, v, hv with
  | 0, _, 0, _ => rfl
  | 0, _, 1, _ => rfl
  | 1, _, 0, _ => rfl
  | 1, _, 1, _ => rfl
theorem mlo_uv {i j : Iv} {u v : Nat} (hu : u < 2) (hv : v < 2) : mlo i j (2 * u + (v + 1)) = if (scF (sel i u) (sel j v)).lo < mlo i j (2 * u + v) then (scF (sel i u) (sel j v)).lo else mlo i j (2 * u + v) := by
  rw [← prs_uv hu hv]; rfl
theorem mhi_uv {i j : Iv} {u v : Nat} (hu : u < 2) (hv : v < 2) : mhi i j (2 * u + (v + 1)) = if mhi i j (2 * u + v) < (scF (sel i u) (sel j v)).hi then (scF (sel i u) (sel j v)).hi else mhi i j (2 * u + v) := by
  rw [← prs_uv hu hv]; rfl
theorem muF_n {i j : Iv} {u v : Nat} (hu : u < 2) (hv : v < 2) (h : (scF (sel i u) (sel j v)).ok = false) : muF i j = Iv.no := by
  rw [← prs_uv hu hv] at h
  refine if_neg ?_
  rintro ⟨a, b, c, d⟩
  match u, hu, v, hv with
  | 0, _, 0, _ => rw [show prs i j 0 = prs i j (2 * 0 + 0) from rfl, h] at a; cases a
  | 0, _, 1, _ => rw [show prs i j 1 = prs i j (2 * 0 + 1) from rfl, h] at b; cases b
  | 1, _, 0, _ => rw [show prs i j 2 = prs i j (2 * 1 + 0) from rfl, h] at c; cases c
  | 1, _, 1, _ => rw [show prs i j 3 = prs i j (2 * 1 + 1) from rfl, h] at d; cases d
theorem muF_y {i j : Iv} (h : ∀ k, k < 2 * 2 → (prs i j k).ok = true) : muF i j = ⟨mlo i j (2 * 2), mhi i j (2 * 2), true⟩ := if_pos ⟨h 0 (by omega), h 1 (by omega), h 2 (by omega), h 3 (by omega)⟩
theorem prs_step {i j : Iv} {u v : Nat} (hu : u < 2) (hv : v < 2) (h : ∀ k, k < 2 * u + v → (prs i j k).ok = true) (h' : (scF (sel i u) (sel j v)).ok = true) : ∀ k, k < 2 * u + (v + 1) → (prs i j k).ok = true := by
  intro k hk
  rcases Nat.lt_or_eq_of_le (show k ≤ 2 * u + v by omega) with c | c
  · exact h k c
  · rw [c, prs_uv hu hv]; exact h'
theorem dec_two {p : Prop} [Decidable p] {b : Bool} (h : b = decide p) : (p → b = true) ∧ (¬ p → b = false) := ⟨fun hp => by rw [h]; exact decide_eq_true hp, fun hp => by rw [h]; exact decide_eq_false hp⟩
theorem siF_1 {i : Iv} (h : 0 < i.lo) : siF i = (1, true) := if_pos h
theorem siF_2 {i : Iv} (h : ¬ 0 < i.lo) (h' : i.hi < 0) : siF i = (-1, true) := by unfold siF; rw [if_neg h, if_pos h']
theorem siF_3 {i : Iv} (h : ¬ 0 < i.lo) (h' : ¬ i.hi < 0) : siF i = (0, decide (i.lo = 0) && decide (i.hi = 0)) := by unfold siF; rw [if_neg h, if_neg h']
/-- Which end of an interval a slice of its ends gives. -/
theorem idx_iv {i : Iv} {sz bs ag zz e k} {u : Nat} (h : u < 2) : indexA ⟨sz, bs, ag, zz, .slice e⟩ 1 (some (.c (.sl 2 [.int .i64 i.lo, .int .i64 i.hi]))) (some (.c (.int k (u : Int)))) = some (.iptr [.int .i64 (sel i u)]) := by
  match u, h with
  | 0, _ => rfl
  | 1, _ => rfl
end Go.PL

set_option linter.unusedSimpArgs false
set_option linter.unusedVariables false
set_option maxRecDepth 20000
namespace Go.Proofs.YtbadkjfjdkbgfaaGreat
open Go Go.PL Go.RL
set_option maxHeartbeats 4000000 in
theorem c_filter_abs (x : Int) (hx : -2305843009213693952 ≤ x) (hx' : x ≤ 2305843009213693952) :
    Ret Tryz.prog 176 [.c (.int .i64 x)] (.e (.c (.int .u64 ((x.natAbs : Nat) : Int)))) := by
  refine ret_of_body (md := {}) Tryz.func176 (by kernel_rfl) rfl ?_
  simp only [Tryz.f176, List.map_cons, List.map_nil, List.length_cons, List.length_nil, Nat.zero_add, Nat.reduceAdd, Nat.reduceSub, List.reduceReplicate, List.cons_append, List.nil_append]
  refine pwx_sr 0 [] (by rfl) (fun K1 hK1 => ?_)
  simp (disch := omega) only [go_sem]
  refine hK1 _ ?_
  clear hK1 K1
  refine pwp_seq ?_
  refine pwx_sr 0 [] (by rfl) (fun K2 hK2 => ?_)
  simp (disch := omega) only [go_sem]
  refine hK2 _ ?_
  clear hK2 K2
  refine pwp_cond (b := _) (by rfl) (fun hb0 => ?_) (fun hb0 => ?_)
  · first | replace hb0 := of_decide_eq_true hb0 | replace hb0 := of_decide_eq_false hb0 | skip
    refine pwx_sr 0 [] (by rfl) (fun K3 hK3 => ?_)
    simp (disch := omega) only [go_sem]
    refine hK3 _ ?_
    clear hK3 K3
    refine pwp_ret ?_
    refine r_then ?_
    refine ⟨Or.inr rfl, ?_⟩
    simp (disch := omega) only [go_sem]
    exact (abs_n hb0 hx).symm
  · first | replace hb0 := of_decide_eq_true hb0 | replace hb0 := of_decide_eq_false hb0 | skip
    refine pwp_skip ?_
    refine n_then ?_
    refine pwx_sr 0 [] (by rfl) (fun K4 hK4 => ?_)
    simp (disch := omega) only [go_sem]
    refine hK4 _ ?_
    clear hK4 K4
    refine pwp_ret ?_
    refine ⟨Or.inr rfl, ?_⟩
    simp (disch := omega) only [go_sem]
    omega
set_option maxHeartbeats 4000000 in
theorem c_filter_proper (x y : Int) :
    Ret Tryz.prog 172 [.c (.int .i64 x), .c (.int .i64 y)] (.t [.a [.int .i64 (prF x y).lo, .int .i64 (prF x y).hi], .c (.bool (prF x y).ok)]) := by
  refine ret_of_body (md := {}) Tryz.func172 (by kernel_rfl) rfl ?_
  simp only [Tryz.f172, List.map_cons, List.map_nil, List.length_cons, List.length_nil, Nat.zero_add, Nat.reduceAdd, Nat.reduceSub, List.reduceReplicate, List.cons_append, List.nil_append]
  refine pwx_sr 1 [] (by rfl) (fun K1 hK1 => ?_)
  simp (disch := omega) only [go_sem]
  refine hK1 _ ?_
  clear hK1 K1
  refine pwp_seq ?_
  by_cases h0 : x < -2305843009213693952
  · refine pwx_sr 0 [some 6, some 7, some 8, some 9, some 10, some 11] (by rfl) (fun K2 hK2 => ?_)
    simp (disch := omega) only [go_sem]
    refine hK2 _ ?_
    clear hK2 K2
    refine pwp_cond (b := _) (by rfl) (fun hb0 => ?_) (fun hb0 => ?_)
    · first | replace hb0 := of_decide_eq_true hb0 | replace hb0 := of_decide_eq_false hb0 | skip
      refine pwx_sr 0 [] (by rfl) (fun K3 hK3 => ?_)
      simp (disch := omega) only [go_sem]
      refine hK3 _ ?_
      clear hK3 K3
      refine pwp_ret ?_
      refine r_then ?_
      refine ⟨Or.inr rfl, ?_⟩
      simp (disch := omega) only [go_sem]
      all_goals first | trivial | (rw [prF_n (by omega)]; exact ⟨⟨rfl, rfl⟩, rfl⟩) | (rw [prF_y (by omega) (by omega)]; exact ⟨⟨rfl, rfl⟩, rfl⟩) | contradiction
    · first | replace hb0 := of_decide_eq_true hb0 | replace hb0 := of_decide_eq_false hb0 | skip
      refine pwp_skip ?_
      refine n_then ?_
      refine pwx_sr 0 [] (by rfl) (fun K4 hK4 => ?_)
      simp (disch := omega) only [go_sem]
      refine hK4 _ ?_
      clear hK4 K4
      refine pwp_ret ?_
      refine ⟨Or.inr rfl, ?_⟩
      simp (disch := omega) only [go_sem]
      all_goals first | trivial | (rw [prF_n (by omega)]; exact ⟨⟨rfl, rfl⟩, rfl⟩) | (rw [prF_y (by omega) (by omega)]; exact ⟨⟨rfl, rfl⟩, rfl⟩) | contradiction
  · refine pwx_sr 0 [some 6, some 7, some 8, some 9, some 10, some 11] (by rfl) (fun K5 hK5 => ?_)
    simp (disch := omega) only [go_sem]
    refine hK5 _ ?_
    clear hK5 K5
    refine pwp_cond (b := _) (by rfl) (fun hb1 => ?_) (fun hb1 => ?_)
    · first | replace hb1 := of_decide_eq_true hb1 | replace hb1 := of_decide_eq_false hb1 | skip
      refine pwx_sr 0 [] (by rfl) (fun K6 hK6 => ?_)
      simp (disch := omega) only [go_sem]
      refine hK6 _ ?_
      clear hK6 K6
      refine pwp_ret ?_
      refine r_then ?_
      refine ⟨Or.inr rfl, ?_⟩
      simp (disch := omega) only [go_sem]
      all_goals first | trivial | (rw [prF_n (by omega)]; exact ⟨⟨rfl, rfl⟩, rfl⟩) | (rw [prF_y (by omega) (by omega)]; exact ⟨⟨rfl, rfl⟩, rfl⟩) | contradiction
    · first | replace hb1 := of_decide_eq_true hb1 | replace hb1 := of_decide_eq_false hb1 | skip
      refine pwp_skip ?_
      refine n_then ?_
      refine pwx_sr 0 [] (by rfl) (fun K7 hK7 => ?_)
      simp (disch := omega) only [go_sem]
      refine hK7 _ ?_
      clear hK7 K7
      refine pwp_ret ?_
      refine ⟨Or.inr rfl, ?_⟩
      simp (disch := omega) only [go_sem]
      all_goals first | trivial | (rw [prF_n (by omega)]; exact ⟨⟨rfl, rfl⟩, rfl⟩) | (rw [prF_y (by omega) (by omega)]; exact ⟨⟨rfl, rfl⟩, rfl⟩) | contradiction
set_option maxHeartbeats 4000000 in
theorem c_filter_Sign (i : Iv) :
    Ret Tryz.prog 164 [.a [.int .i64 i.lo, .int .i64 i.hi]] (.t [.c (.int .i64 (siF i).1), .c (.bool (siF i).2)]) := by
  refine ret_of_body (md := {}) Tryz.func164 (by kernel_rfl) rfl ?_
  simp only [Tryz.f164, List.map_cons, List.map_nil, List.length_cons, List.length_nil, Nat.zero_add, Nat.reduceAdd, Nat.reduceSub, List.reduceReplicate, List.cons_append, List.nil_append]
  refine pwx_sr 1 [] (by rfl) (fun K1 hK1 => ?_)
  simp (disch := omega) only [go_sem]
  refine hK1 _ ?_
  clear hK1 K1
  refine pwp_seq ?_
  refine pwp_block ?_
  refine pwx_sr 0 [] (by rfl) (fun K2 hK2 => ?_)
  simp (disch := omega) only [go_sem]
  refine hK2 _ ?_
  clear hK2 K2
  refine pwp_cond (b := _) (by rfl) (fun hb0 => ?_) (fun hb0 => ?_)
  · first | replace hb0 := of_decide_eq_true hb0 | replace hb0 := of_decide_eq_false hb0 | skip
    refine pwx_sr 0 [] (by rfl) (fun K3 hK3 => ?_)
    simp (disch := omega) only [go_sem]
    refine hK3 _ ?_
    clear hK3 K3
    refine pwp_ret ?_
    refine r_block ?_
    refine r_then ?_
    refine ⟨Or.inr rfl, ?_⟩
    simp (disch := omega) only [go_sem]
    rw [siF_1 hb0]; exact ⟨rfl, rfl⟩
  · first | replace hb0 := of_decide_eq_true hb0 | replace hb0 := of_decide_eq_false hb0 | skip
    refine pwx_sr 0 [] (by rfl) (fun K4 hK4 => ?_)
    simp (disch := omega) only [go_sem]
    refine hK4 _ ?_
    clear hK4 K4
    refine pwp_cond (b := _) (by rfl) (fun hb1 => ?_) (fun hb1 => ?_)
    · first | replace hb1 := of_decide_eq_true hb1 | replace hb1 := of_decide_eq_false hb1 | skip
      refine pwx_sr 0 [] (by rfl) (fun K5 hK5 => ?_)
      simp (disch := omega) only [go_sem]
      refine hK5 _ ?_
      clear hK5 K5
      refine pwp_ret ?_
      refine r_block ?_
      refine r_then ?_
      refine ⟨Or.inr rfl, ?_⟩
      simp (disch := omega) only [go_sem]
      rw [siF_2 hb0 hb1]; exact ⟨rfl, rfl⟩
    · first | replace hb1 := of_decide_eq_true hb1 | replace hb1 := of_decide_eq_false hb1 | skip
      refine pwp_skip ?_
      refine n_block ?_
      refine n_then ?_
      by_cases h0 : i.lo = 0
      · refine pwx_sd Tryz.mixed 0 [some 12, some 13, some 14, some 15, some 16, some 17, some 18, some 19, some 2, some 3] (by rfl) [] (by kernel_rfl) (by simp) (fun K6 hK6 => ?_)
        simp (disch := omega) only [go_sem]
        refine hK6 _ ?_
        clear hK6 K6
        refine pwp_ret ?_
        refine ⟨Or.inr rfl, ?_⟩
        simp (disch := omega) only [go_sem]
        rw [siF_3 hb0 hb1, h0]; exact ⟨rfl, by simp⟩
      · refine pwx_sd Tryz.mixed 0 [some 12, some 13, some 14, some 15, some 16, some 17, some 18, some 19, some 2, some 3] (by rfl) [] (by kernel_rfl) (by simp) (fun K7 hK7 => ?_)
        simp (disch := omega) only [go_sem]
        refine hK7 _ ?_
        clear hK7 K7
        refine pwp_ret ?_
        refine ⟨Or.inr rfl, ?_⟩
        simp (disch := omega) only [go_sem]
        rw [siF_3 hb0 hb1, decide_eq_false h0]; exact ⟨rfl, rfl⟩

end Go.Proofs.YtbadkjfjdkbgfaaGreat

set_option linter.unusedSimpArgs false
set_option linter.unusedVariables false
set_option maxRecDepth 20000
namespace Go.Proofs.YtbadkjfjdkbgfaaGreat
open Go Go.PL Go.RL
set_option maxHeartbeats 4000000 in
theorem c_filter_scaled (x y : Int) (hx : -2305843009213693952 ≤ x) (hx' : x ≤ 2305843009213693952) (hy : -2305843009213693952 ≤ y) (hy' : y ≤ 2305843009213693952) :
    Ret Tryz.prog 174 [.c (.int .i64 x), .c (.int .i64 y)] (.t [.c (.int .i64 (scF x y).lo), .c (.int .i64 (scF x y).hi), .c (.bool (scF x y).ok)]) := by
  refine ret_of_body (md := {}) Tryz.func174 (by kernel_rfl) rfl ?_
  simp only [Tryz.f174, List.map_cons, List.map_nil, List.length_cons, List.length_nil, Nat.zero_add, Nat.reduceAdd, Nat.reduceSub, List.reduceReplicate, List.cons_append, List.nil_append]
  refine pwx_sr 0 [] (by rfl) (fun K1 hK1 => ?_)
  simp (disch := omega) only [go_sem]
  refine hK1 _ ?_
  clear hK1 K1
  refine pwx_sr 0 [] (by rfl) (fun K2 hK2 => ?_)
  refine rgnX_take 2 (fun K3 hK3 => ?_)
  simp (disch := omega) only [go_sem]
  refine ⟨_, c_filter_abs _ (by omega) (by omega), ?_⟩
  refine hK3 _ ?_
  refine rgnX_take 2 (fun K4 hK4 => ?_)
  simp (disch := omega) only [go_sem]
  refine ⟨_, c_filter_abs _ (by omega) (by omega), ?_⟩
  refine hK4 _ ?_
  refine rgnX_take 1 (fun K5 hK5 => ?_)
  simp (disch := omega) only [go_sem]
  refine ⟨_, c_bits_Mul64 _ _ (by omega) (by omega), ?_⟩
  refine hK5 _ ?_
  simp (disch := omega) only [go_sem]
  refine hK2 _ ?_
  clear hK5 K5 hK4 K4 hK3 K3 hK2 K2
  refine pwp_seq ?_
  refine pwx_sr 0 [] (by rfl) (fun K6 hK6 => ?_)
  simp (disch := omega) only [go_sem]
  refine hK6 _ ?_
  clear hK6 K6
  refine pwp_cond (b := _) (by rfl) (fun hb0 => ?_) (fun hb0 => ?_)
  · have hq0 := nz_t hb0
    refine pwx_sr 0 [] (by rfl) (fun K7 hK7 => ?_)
    simp (disch := omega) only [go_sem]
    refine hK7 _ ?_
    clear hK7 K7
    refine pwp_ret ?_
    refine r_then ?_
    refine ⟨Or.inr rfl, ?_⟩
    simp (disch := omega) only [go_sem]
    all_goals first | trivial | (rw [scF_a hq0]; exact ⟨rfl, rfl, rfl⟩) | (rw [scF_b (by omega) (by omega)]; exact ⟨rfl, rfl, rfl⟩) | (obtain ⟨e1, e2, e3⟩ := scF_t (k := 0) hq0 hb1 (by assumption) (by assumption) rfl; rw [e1, e2]; refine ⟨by omega, by omega, ?_⟩; first | exact (dec_two e3).1 (by omega) | exact (dec_two e3).2 (by omega)) | (obtain ⟨e1, e2, e3⟩ := scF_t (k := 1) hq0 hb1 (by assumption) (by assumption) rfl; rw [e1, e2]; refine ⟨by omega, by omega, ?_⟩; first | exact (dec_two e3).1 (by omega) | exact (dec_two e3).2 (by omega)) | (obtain ⟨e1, e2, e3⟩ := scF_f (k := 0) hq0 hb1 (by assumption) (by assumption) rfl; rw [e1, e2]; refine ⟨by omega, by omega, ?_⟩; first | exact (dec_two e3).1 (by omega) | exact (dec_two e3).2 (by omega)) | (obtain ⟨e1, e2, e3⟩ := scF_f (k := 1) hq0 hb1 (by assumption) (by assumption) rfl; rw [e1, e2]; refine ⟨by omega, by omega, ?_⟩; first | exact (dec_two e3).1 (by omega) | exact (dec_two e3).2 (by omega))
  · have hq0 := nz_f hb0
    have hq1 : x.natAbs * y.natAbs / 18446744073709551616 < 65536 := by omega
    refine pwp_skip ?_
    refine n_then ?_
    refine pwx_sr 0 [] (by rfl) (fun K8 hK8 => ?_)
    simp (disch := omega) only [go_sem, scq]
    refine hK8 _ ?_
    clear hK8 K8
    refine pwp_seq ?_
    refine pwx_sr 0 [] (by rfl) (fun K9 hK9 => ?_)
    simp (disch := omega) only [go_sem]
    refine hK9 _ ?_
    clear hK9 K9
    refine pwp_cond (b := _) (by rfl) (fun hb1 => ?_) (fun hb1 => ?_)
    · replace hb1 := of_decide_eq_true hb1
      refine pwx_sr 0 [] (by rfl) (fun K10 hK10 => ?_)
      simp (disch := omega) only [go_sem]
      refine hK10 _ ?_
      clear hK10 K10
      refine pwp_ret ?_
      refine r_then ?_
      refine ⟨Or.inr rfl, ?_⟩
      simp (disch := omega) only [go_sem]
      all_goals first | trivial | (rw [scF_a hq0]; exact ⟨rfl, rfl, rfl⟩) | (rw [scF_b (by omega) (by omega)]; exact ⟨rfl, rfl, rfl⟩) | (obtain ⟨e1, e2, e3⟩ := scF_t (k := 0) hq0 hb1 (by assumption) (by assumption) rfl; rw [e1, e2]; refine ⟨by omega, by omega, ?_⟩; first | exact (dec_two e3).1 (by omega) | exact (dec_two e3).2 (by omega)) | (obtain ⟨e1, e2, e3⟩ := scF_t (k := 1) hq0 hb1 (by assumption) (by assumption) rfl; rw [e1, e2]; refine ⟨by omega, by omega, ?_⟩; first | exact (dec_two e3).1 (by omega) | exact (dec_two e3).2 (by omega)) | (obtain ⟨e1, e2, e3⟩ := scF_f (k := 0) hq0 hb1 (by assumption) (by assumption) rfl; rw [e1, e2]; refine ⟨by omega, by omega, ?_⟩; first | exact (dec_two e3).1 (by omega) | exact (dec_two e3).2 (by omega)) | (obtain ⟨e1, e2, e3⟩ := scF_f (k := 1) hq0 hb1 (by assumption) (by assumption) rfl; rw [e1, e2]; refine ⟨by omega, by omega, ?_⟩; first | exact (dec_two e3).1 (by omega) | exact (dec_two e3).2 (by omega))
    · replace hb1 := of_decide_eq_false hb1
      refine pwp_skip ?_
      refine n_then ?_
      refine pwx_sr 0 [] (by rfl) (fun K11 hK11 => ?_)
      simp (disch := omega) only [go_sem]
      refine hK11 _ ?_
      clear hK11 K11
      refine pwp_seq ?_
      refine pwx_sr 0 [] (by rfl) (fun K12 hK12 => ?_)
      simp (disch := omega) only [go_sem]
      refine hK12 _ ?_
      clear hK12 K12
      refine pwp_cond (b := _) (by rfl) (fun hb2 => ?_) (fun hb2 => ?_)
      · first | replace hb2 := of_decide_eq_true hb2 | replace hb2 := of_decide_eq_false hb2 | skip
        refine pwx_region 0 [] (by rfl) (fun K13 hK13 => ?_)
        simp (disch := omega) only [go_sem]
        refine hK13 _ ?_
        clear hK13 K13
        refine n_then ?_
        refine pwp_seq ?_
        refine pwx_sr 0 [] (by rfl) (fun K14 hK14 => ?_)
        simp (disch := omega) only [go_sem]
        refine hK14 _ ?_
        clear hK14 K14
        refine pwp_cond (b := _) (by rfl) (fun hb3 => ?_) (fun hb3 => ?_)
        · first | replace hb3 := of_decide_eq_true hb3 | replace hb3 := of_decide_eq_false hb3 | skip
          refine pwx_region 0 [] (by rfl) (fun K15 hK15 => ?_)
          simp (disch := omega) only [go_sem]
          refine hK15 _ ?_
          clear hK15 K15
          refine n_then ?_
          by_cases hE : x.natAbs * y.natAbs / 65536 = 2305843009213693952
          · refine pwx_sr 0 [some 48, some 49, some 50, some 51, some 52, some 53, some 54, some 55, some 4, some 5, some 6] (by rfl) (fun K16 hK16 => ?_)
            simp (disch := omega) only [go_sem, le_T, le_F]
            refine hK16 _ ?_
            clear hK16 K16
            refine pwp_ret ?_
            refine ⟨Or.inr rfl, ?_⟩
            simp (disch := omega) only [go_sem]
            all_goals first | trivial | (rw [scF_a hq0]; exact ⟨rfl, rfl, rfl⟩) | (rw [scF_b (by omega) (by omega)]; exact ⟨rfl, rfl, rfl⟩) | (obtain ⟨e1, e2, e3⟩ := scF_t (k := 0) hq0 hb1 (by assumption) (by assumption) rfl; rw [e1, e2]; refine ⟨by omega, by omega, ?_⟩; first | exact (dec_two e3).1 (by omega) | exact (dec_two e3).2 (by omega)) | (obtain ⟨e1, e2, e3⟩ := scF_t (k := 1) hq0 hb1 (by assumption) (by assumption) rfl; rw [e1, e2]; refine ⟨by omega, by omega, ?_⟩; first | exact (dec_two e3).1 (by omega) | exact (dec_two e3).2 (by omega)) | (obtain ⟨e1, e2, e3⟩ := scF_f (k := 0) hq0 hb1 (by assumption) (by assumption) rfl; rw [e1, e2]; refine ⟨by omega, by omega, ?_⟩; first | exact (dec_two e3).1 (by omega) | exact (dec_two e3).2 (by omega)) | (obtain ⟨e1, e2, e3⟩ := scF_f (k := 1) hq0 hb1 (by assumption) (by assumption) rfl; rw [e1, e2]; refine ⟨by omega, by omega, ?_⟩; first | exact (dec_two e3).1 (by omega) | exact (dec_two e3).2 (by omega))
          · refine pwx_sr 0 [some 48, some 49, some 50, some 51, some 52, some 53, some 54, some 55, some 4, some 5, some 6] (by rfl) (fun K17 hK17 => ?_)
            simp (disch := omega) only [go_sem, le_T, le_F]
            refine hK17 _ ?_
            clear hK17 K17
            refine pwp_ret ?_
            refine ⟨Or.inr rfl, ?_⟩
            simp (disch := omega) only [go_sem]
            all_goals first | trivial | (rw [scF_a hq0]; exact ⟨rfl, rfl, rfl⟩) | (rw [scF_b (by omega) (by omega)]; exact ⟨rfl, rfl, rfl⟩) | (obtain ⟨e1, e2, e3⟩ := scF_t (k := 0) hq0 hb1 (by assumption) (by assumption) rfl; rw [e1, e2]; refine ⟨by omega, by omega, ?_⟩; first | exact (dec_two e3).1 (by omega) | exact (dec_two e3).2 (by omega)) | (obtain ⟨e1, e2, e3⟩ := scF_t (k := 1) hq0 hb1 (by assumption) (by assumption) rfl; rw [e1, e2]; refine ⟨by omega, by omega, ?_⟩; first | exact (dec_two e3).1 (by omega) | exact (dec_two e3).2 (by omega)) | (obtain ⟨e1, e2, e3⟩ := scF_f (k := 0) hq0 hb1 (by assumption) (by assumption) rfl; rw [e1, e2]; refine ⟨by omega, by omega, ?_⟩; first | exact (dec_two e3).1 (by omega) | exact (dec_two e3).2 (by omega)) | (obtain ⟨e1, e2, e3⟩ := scF_f (k := 1) hq0 hb1 (by assumption) (by assumption) rfl; rw [e1, e2]; refine ⟨by omega, by omega, ?_⟩; first | exact (dec_two e3).1 (by omega) | exact (dec_two e3).2 (by omega))
        · first | replace hb3 := of_decide_eq_true hb3 | replace hb3 := of_decide_eq_false hb3 | skip
          refine pwp_skip ?_
          refine n_then ?_
          by_cases hE : x.natAbs * y.natAbs / 65536 = 2305843009213693952
          · refine pwx_sr 0 [some 48, some 49, some 50, some 51, some 52, some 53, some 54, some 55, some 4, some 5, some 6] (by rfl) (fun K18 hK18 => ?_)
            simp (disch := omega) only [go_sem, le_T, le_F]
            refine hK18 _ ?_
            clear hK18 K18
            refine pwp_ret ?_
            refine ⟨Or.inr rfl, ?_⟩
            simp (disch := omega) only [go_sem]
            all_goals first | trivial | (rw [scF_a hq0]; exact ⟨rfl, rfl, rfl⟩) | (rw [scF_b (by omega) (by omega)]; exact ⟨rfl, rfl, rfl⟩) | (obtain ⟨e1, e2, e3⟩ := scF_t (k := 0) hq0 hb1 (by assumption) (by assumption) rfl; rw [e1, e2]; refine ⟨by omega, by omega, ?_⟩; first | exact (dec_two e3).1 (by omega) | exact (dec_two e3).2 (by omega)) | (obtain ⟨e1, e2, e3⟩ := scF_t (k := 1) hq0 hb1 (by assumption) (by assumption) rfl; rw [e1, e2]; refine ⟨by omega, by omega, ?_⟩; first | exact (dec_two e3).1 (by omega) | exact (dec_two e3).2 (by omega)) | (obtain ⟨e1, e2, e3⟩ := scF_f (k := 0) hq0 hb1 (by assumption) (by assumption) rfl; rw [e1, e2]; refine ⟨by omega, by omega, ?_⟩; first | exact (dec_two e3).1 (by omega) | exact (dec_two e3).2 (by omega)) | (obtain ⟨e1, e2, e3⟩ := scF_f (k := 1) hq0 hb1 (by assumption) (by assumption) rfl; rw [e1, e2]; refine ⟨by omega, by omega, ?_⟩; first | exact (dec_two e3).1 (by omega) | exact (dec_two e3).2 (by omega))
          · refine pwx_sr 0 [some 48, some 49, some 50, some 51, some 52, some 53, some 54, some 55, some 4, some 5, some 6] (by rfl) (fun K19 hK19 => ?_)
            simp (disch := omega) only [go_sem, le_T, le_F]
            refine hK19 _ ?_
            clear hK19 K19
            refine pwp_ret ?_
            refine ⟨Or.inr rfl, ?_⟩
            simp (disch := omega) only [go_sem]
            all_goals first | trivial | (rw [scF_a hq0]; exact ⟨rfl, rfl, rfl⟩) | (rw [scF_b (by omega) (by omega)]; exact ⟨rfl, rfl, rfl⟩) | (obtain ⟨e1, e2, e3⟩ := scF_t (k := 0) hq0 hb1 (by assumption) (by assumption) rfl; rw [e1, e2]; refine ⟨by omega, by omega, ?_⟩; first | exact (dec_two e3).1 (by omega) | exact (dec_two e3).2 (by omega)) | (obtain ⟨e1, e2, e3⟩ := scF_t (k := 1) hq0 hb1 (by assumption) (by assumption) rfl; rw [e1, e2]; refine ⟨by omega, by omega, ?_⟩; first | exact (dec_two e3).1 (by omega) | exact (dec_two e3).2 (by omega)) | (obtain ⟨e1, e2, e3⟩ := scF_f (k := 0) hq0 hb1 (by assumption) (by assumption) rfl; rw [e1, e2]; refine ⟨by omega, by omega, ?_⟩; first | exact (dec_two e3).1 (by omega) | exact (dec_two e3).2 (by omega)) | (obtain ⟨e1, e2, e3⟩ := scF_f (k := 1) hq0 hb1 (by assumption) (by assumption) rfl; rw [e1, e2]; refine ⟨by omega, by omega, ?_⟩; first | exact (dec_two e3).1 (by omega) | exact (dec_two e3).2 (by omega))
      · first | replace hb2 := of_decide_eq_true hb2 | replace hb2 := of_decide_eq_false hb2 | skip
        refine pwp_skip ?_
        refine n_then ?_
        refine pwp_seq ?_
        refine pwx_sr 0 [] (by rfl) (fun K20 hK20 => ?_)
        simp (disch := omega) only [go_sem]
        refine hK20 _ ?_
        clear hK20 K20
        refine pwp_cond (b := _) (by rfl) (fun hb4 => ?_) (fun hb4 => ?_)
        · first | replace hb4 := of_decide_eq_true hb4 | replace hb4 := of_decide_eq_false hb4 | skip
          refine pwx_region 0 [] (by rfl) (fun K21 hK21 => ?_)
          simp (disch := omega) only [go_sem]
          refine hK21 _ ?_
          clear hK21 K21
          refine n_then ?_
          by_cases hE : x.natAbs * y.natAbs / 65536 = 2305843009213693952
          · refine pwx_sr 0 [some 48, some 49, some 50, some 51, some 52, some 53, some 54, some 55, some 4, some 5, some 6] (by rfl) (fun K22 hK22 => ?_)
            simp (disch := omega) only [go_sem, le_T, le_F]
            refine hK22 _ ?_
            clear hK22 K22
            refine pwp_ret ?_
            refine ⟨Or.inr rfl, ?_⟩
            simp (disch := omega) only [go_sem]
            all_goals first | trivial | (rw [scF_a hq0]; exact ⟨rfl, rfl, rfl⟩) | (rw [scF_b (by omega) (by omega)]; exact ⟨rfl, rfl, rfl⟩) | (obtain ⟨e1, e2, e3⟩ := scF_t (k := 0) hq0 hb1 (by assumption) (by assumption) rfl; rw [e1, e2]; refine ⟨by omega, by omega, ?_⟩; first | exact (dec_two e3).1 (by omega) | exact (dec_two e3).2 (by omega)) | (obtain ⟨e1, e2, e3⟩ := scF_t (k := 1) hq0 hb1 (by assumption) (by assumption) rfl; rw [e1, e2]; refine ⟨by omega, by omega, ?_⟩; first | exact (dec_two e3).1 (by omega) | exact (dec_two e3).2 (by omega)) | (obtain ⟨e1, e2, e3⟩ := scF_f (k := 0) hq0 hb1 (by assumption) (by assumption) rfl; rw [e1, e2]; refine ⟨by omega, by omega, ?_⟩; first | exact (dec_two e3).1 (by omega) | exact (dec_two e3).2 (by omega)) | (obtain ⟨e1, e2, e3⟩ := scF_f (k := 1) hq0 hb1 (by assumption) (by assumption) rfl; rw [e1, e2]; refine ⟨by omega, by omega, ?_⟩; first | exact (dec_two e3).1 (by omega) | exact (dec_two e3).2 (by omega))
          · refine pwx_sr 0 [some 48, some 49, some 50, some 51, some 52, some 53, some 54, some 55, some 4, some 5, some 6] (by rfl) (fun K23 hK23 => ?_)
            simp (disch := omega) only [go_sem, le_T, le_F]
            refine hK23 _ ?_
            clear hK23 K23
            refine pwp_ret ?_
            refine ⟨Or.inr rfl, ?_⟩
            simp (disch := omega) only [go_sem]
            all_goals first | trivial | (rw [scF_a hq0]; exact ⟨rfl, rfl, rfl⟩) | (rw [scF_b (by omega) (by omega)]; exact ⟨rfl, rfl, rfl⟩) | (obtain ⟨e1, e2, e3⟩ := scF_t (k := 0) hq0 hb1 (by assumption) (by assumption) rfl; rw [e1, e2]; refine ⟨by omega, by omega, ?_⟩; first | exact (dec_two e3).1 (by omega) | exact (dec_two e3).2 (by omega)) | (obtain ⟨e1, e2, e3⟩ := scF_t (k := 1) hq0 hb1 (by assumption) (by assumption) rfl; rw [e1, e2]; refine ⟨by omega, by omega, ?_⟩; first | exact (dec_two e3).1 (by omega) | exact (dec_two e3).2 (by omega)) | (obtain ⟨e1, e2, e3⟩ := scF_f (k := 0) hq0 hb1 (by assumption) (by assumption) rfl; rw [e1, e2]; refine ⟨by omega, by omega, ?_⟩; first | exact (dec_two e3).1 (by omega) | exact (dec_two e3).2 (by omega)) | (obtain ⟨e1, e2, e3⟩ := scF_f (k := 1) hq0 hb1 (by assumption) (by assumption) rfl; rw [e1, e2]; refine ⟨by omega, by omega, ?_⟩; first | exact (dec_two e3).1 (by omega) | exact (dec_two e3).2 (by omega))
        · first | replace hb4 := of_decide_eq_true hb4 | replace hb4 := of_decide_eq_false hb4 | skip
          refine pwp_skip ?_
          refine n_then ?_
          by_cases hE : x.natAbs * y.natAbs / 65536 = 2305843009213693952
          · refine pwx_sr 0 [some 48, some 49, some 50, some 51, some 52, some 53, some 54, some 55, some 4, some 5, some 6] (by rfl) (fun K24 hK24 => ?_)
            simp (disch := omega) only [go_sem, le_T, le_F]
            refine hK24 _ ?_
            clear hK24 K24
            refine pwp_ret ?_
            refine ⟨Or.inr rfl, ?_⟩
            simp (disch := omega) only [go_sem]
            all_goals first | trivial | (rw [scF_a hq0]; exact ⟨rfl, rfl, rfl⟩) | (rw [scF_b (by omega) (by omega)]; exact ⟨rfl, rfl, rfl⟩) | (obtain ⟨e1, e2, e3⟩ := scF_t (k := 0) hq0 hb1 (by assumption) (by assumption) rfl; rw [e1, e2]; refine ⟨by omega, by omega, ?_⟩; first | exact (dec_two e3).1 (by omega) | exact (dec_two e3).2 (by omega)) | (obtain ⟨e1, e2, e3⟩ := scF_t (k := 1) hq0 hb1 (by assumption) (by assumption) rfl; rw [e1, e2]; refine ⟨by omega, by omega, ?_⟩; first | exact (dec_two e3).1 (by omega) | exact (dec_two e3).2 (by omega)) | (obtain ⟨e1, e2, e3⟩ := scF_f (k := 0) hq0 hb1 (by assumption) (by assumption) rfl; rw [e1, e2]; refine ⟨by omega, by omega, ?_⟩; first | exact (dec_two e3).1 (by omega) | exact (dec_two e3).2 (by omega)) | (obtain ⟨e1, e2, e3⟩ := scF_f (k := 1) hq0 hb1 (by assumption) (by assumption) rfl; rw [e1, e2]; refine ⟨by omega, by omega, ?_⟩; first | exact (dec_two e3).1 (by omega) | exact (dec_two e3).2 (by omega))
          · refine pwx_sr 0 [some 48, some 49, some 50, some 51, some 52, some 53, some 54, some 55, some 4, some 5, some 6] (by rfl) (fun K25 hK25 => ?_)
            simp (disch := omega) only [go_sem, le_T, le_F]
            refine hK25 _ ?_
            clear hK25 K25
            refine pwp_ret ?_
            refine ⟨Or.inr rfl, ?_⟩
            simp (disch := omega) only [go_sem]
            all_goals first | trivial | (rw [scF_a hq0]; exact ⟨rfl, rfl, rfl⟩) | (rw [scF_b (by omega) (by omega)]; exact ⟨rfl, rfl, rfl⟩) | (obtain ⟨e1, e2, e3⟩ := scF_t (k := 0) hq0 hb1 (by assumption) (by assumption) rfl; rw [e1, e2]; refine ⟨by omega, by omega, ?_⟩; first | exact (dec_two e3).1 (by omega) | exact (dec_two e3).2 (by omega)) | (obtain ⟨e1, e2, e3⟩ := scF_t (k := 1) hq0 hb1 (by assumption) (by assumption) rfl; rw [e1, e2]; refine ⟨by omega, by omega, ?_⟩; first | exact (dec_two e3).1 (by omega) | exact (dec_two e3).2 (by omega)) | (obtain ⟨e1, e2, e3⟩ := scF_f (k := 0) hq0 hb1 (by assumption) (by assumption) rfl; rw [e1, e2]; refine ⟨by omega, by omega, ?_⟩; first | exact (dec_two e3).1 (by omega) | exact (dec_two e3).2 (by omega)) | (obtain ⟨e1, e2, e3⟩ := scF_f (k := 1) hq0 hb1 (by assumption) (by assumption) rfl; rw [e1, e2]; refine ⟨by omega, by omega, ?_⟩; first | exact (dec_two e3).1 (by omega) | exact (dec_two e3).2 (by omega))

end Go.Proofs.YtbadkjfjdkbgfaaGreat

set_option linter.unusedSimpArgs false
set_option linter.unusedVariables false
set_option maxRecDepth 20000
namespace Go.Proofs.YtbadkjfjdkbgfaaGreat
open Go Go.PL Go.RL
set_option maxHeartbeats 4000000 in
theorem c_filter_Add (i j : Iv) (hi : i.Bd) (hj : j.Bd) :
    Ret Tryz.prog 162 [.a [.int .i64 i.lo, .int .i64 i.hi], .a [.int .i64 j.lo, .int .i64 j.hi]] (.t [.a [.int .i64 (adF i j).lo, .int .i64 (adF i j).hi], .c (.bool (adF i j).ok)]) := by
  refine ret_of_body (md := {}) Tryz.func162 (by kernel_rfl) rfl ?_
  simp only [Tryz.f162, List.map_cons, List.map_nil, List.length_cons, List.length_nil, Nat.zero_add, Nat.reduceAdd, Nat.reduceSub, List.reduceReplicate, List.cons_append, List.nil_append]
  obtain ⟨i1, i2, i3⟩ := hi
  obtain ⟨j1, j2, j3⟩ := hj
  refine pwx_sr 3 [] (by rfl) (fun K1 hK1 => ?_)
  simp (disch := omega) only [go_sem]
  refine hK1 _ ?_
  clear hK1 K1
  refine pwx_sr 0 [] (by rfl) (fun K2 hK2 => ?_)
  refine rgnX_take 11 (fun K3 hK3 => ?_)
  simp (disch := omega) only [go_sem]
  refine ⟨_, c_filter_proper _ _, ?_⟩
  refine hK3 _ ?_
  simp (disch := omega) only [go_sem]
  refine hK2 _ ?_
  clear hK3 K3 hK2 K2
  refine pwp_ret ?_
  refine ⟨Or.inr rfl, ?_⟩
  simp (disch := omega) only [go_sem]
  all_goals exact ⟨⟨rfl, rfl⟩, rfl⟩
set_option maxHeartbeats 4000000 in
theorem c_filter_FromRat (a : Rat) {k : Nat} [SzR a k] (hk : k ≤ 20000) :
    Ret Tryz.prog 159 [.a (ratC a)] (.t [.a [.int .i64 (frF a).lo, .int .i64 (frF a).hi], .c (.bool (frF a).ok)]) := by
  refine ret_of_body (md := {}) Tryz.func159 (by kernel_rfl) rfl ?_
  simp only [Tryz.f159, List.map_cons, List.map_nil, List.length_cons, List.length_nil, Nat.zero_add, Nat.reduceAdd, Nat.reduceSub, List.reduceReplicate, List.cons_append, List.nil_append]
  refine pwx_sr 2 [] (by rfl) (fun K1 hK1 => ?_)
  simp (disch := omega) only [go_sem]
  refine hK1 _ ?_
  clear hK1 K1
  refine pwx_sd Tryz.mixed 1 [] (by rfl) [] (by kernel_rfl) (by simp) (fun K2 hK2 => ?_)
  refine rgnX_take 2 (fun K3 hK3 => ?_)
  simp (disch := omega) only [go_sem, ic65536]
  refine ⟨_, c_rational_FromInt64 _ (by omega) (by omega), ?_⟩
  refine hK3 _ ?_
  refine rgnX_take 1 (fun K4 hK4 => ?_)
  simp (disch := omega) only [go_sem, ic65536]
  refine ⟨_, c_rational_Mul _ _ (by omega), ?_⟩
  refine hK4 _ ?_
  simp (disch := omega) only [go_sem, ic65536]
  refine hK2 _ ?_
  clear hK4 K4 hK3 K3 hK2 K2
  refine pwx_sr 0 [] (by rfl) (fun K5 hK5 => ?_)
  refine rgnX_take 2 (fun K6 hK6 => ?_)
  simp (disch := omega) only [go_sem]
  refine ⟨_, c_rational_Floor _ (by omega), ?_⟩
  refine hK6 _ ?_
  refine rgnX_take 1 (fun K7 hK7 => ?_)
  simp (disch := omega) only [go_sem]
  refine ⟨_, c_integer_Int64 _ szi, ?_⟩
  refine hK7 _ ?_
  simp (disch := omega) only [go_sem]
  refine hK5 _ ?_
  clear hK7 K7 hK6 K6 hK5 K5
  refine pwx_sr 0 [] (by rfl) (fun K8 hK8 => ?_)
  refine rgnX_take 2 (fun K9 hK9 => ?_)
  simp (disch := omega) only [go_sem]
  refine ⟨_, c_rational_Neg _ (by omega), ?_⟩
  refine hK9 _ ?_
  refine rgnX_take 1 (fun K10 hK10 => ?_)
  simp (disch := omega) only [go_sem]
  refine ⟨_, c_rational_Floor _ (by omega), ?_⟩
  refine hK10 _ ?_
  refine rgnX_take 1 (fun K11 hK11 => ?_)
  simp (disch := omega) only [go_sem]
  refine ⟨_, c_integer_Neg _ szi, ?_⟩
  refine hK11 _ ?_
  refine rgnX_take 1 (fun K12 hK12 => ?_)
  simp (disch := omega) only [go_sem]
  refine ⟨_, c_integer_Int64 _ szi, ?_⟩
  refine hK12 _ ?_
  simp (disch := omega) only [go_sem]
  refine hK8 _ ?_
  clear hK12 K12 hK11 K11 hK10 K10 hK9 K9 hK8 K8
  refine pwp_seq ?_
  rcases h1 : fit64 (a * 65536).floor with _ | _ <;> rcases h2 : fit64 (-(-(a * 65536)).floor) with _ | _
  · refine pwx_sr 0 [some 26, some 27, some 28, some 29, some 30, some 31] (by rfl) (fun K13 hK13 => ?_)
    simp (disch := omega) only [go_sem, h1, h2]
    refine hK13 _ ?_
    clear hK13 K13
    refine pwp_cond (b := true) (by rfl) (fun _ => ?_) (fun h => nomatch h)
    refine pwx_sr 0 [] (by rfl) (fun K14 hK14 => ?_)
    simp (disch := omega) only [go_sem]
    refine hK14 _ ?_
    clear hK14 K14
    refine pwp_ret ?_
    refine r_then ?_
    refine ⟨Or.inr rfl, ?_⟩
    simp (disch := omega) only [go_sem]
    all_goals first | (rw [frF_1 h1]; exact ⟨⟨rfl, rfl⟩, rfl⟩) | (rw [frF_2 h2]; exact ⟨⟨rfl, rfl⟩, rfl⟩) | (rw [frF_y h1 h2]; exact ⟨⟨rfl, rfl⟩, rfl⟩)
  · refine pwx_sr 0 [some 26, some 27, some 28, some 29, some 30, some 31] (by rfl) (fun K15 hK15 => ?_)
    simp (disch := omega) only [go_sem, h1, h2]
    refine hK15 _ ?_
    clear hK15 K15
    refine pwp_cond (b := true) (by rfl) (fun _ => ?_) (fun h => nomatch h)
    refine pwx_sr 0 [] (by rfl) (fun K16 hK16 => ?_)
    simp (disch := omega) only [go_sem]
    refine hK16 _ ?_
    clear hK16 K16
    refine pwp_ret ?_
    refine r_then ?_
    refine ⟨Or.inr rfl, ?_⟩
    simp (disch := omega) only [go_sem]
    all_goals first | (rw [frF_1 h1]; exact ⟨⟨rfl, rfl⟩, rfl⟩) | (rw [frF_2 h2]; exact ⟨⟨rfl, rfl⟩, rfl⟩) | (rw [frF_y h1 h2]; exact ⟨⟨rfl, rfl⟩, rfl⟩)
  · refine pwx_sr 0 [some 26, some 27, some 28, some 29, some 30, some 31] (by rfl) (fun K17 hK17 => ?_)
    simp (disch := omega) only [go_sem, h1, h2]
    refine hK17 _ ?_
    clear hK17 K17
    refine pwp_cond (b := true) (by rfl) (fun _ => ?_) (fun h => nomatch h)
    refine pwx_sr 0 [] (by rfl) (fun K18 hK18 => ?_)
    simp (disch := omega) only [go_sem]
    refine hK18 _ ?_
    clear hK18 K18
    refine pwp_ret ?_
    refine r_then ?_
    refine ⟨Or.inr rfl, ?_⟩
    simp (disch := omega) only [go_sem]
    all_goals first | (rw [frF_1 h1]; exact ⟨⟨rfl, rfl⟩, rfl⟩) | (rw [frF_2 h2]; exact ⟨⟨rfl, rfl⟩, rfl⟩) | (rw [frF_y h1 h2]; exact ⟨⟨rfl, rfl⟩, rfl⟩)
  · refine pwx_sr 0 [some 26, some 27, some 28, some 29, some 30, some 31] (by rfl) (fun K19 hK19 => ?_)
    simp (disch := omega) only [go_sem, h1, h2]
    refine hK19 _ ?_
    clear hK19 K19
    refine pwp_cond (b := false) (by rfl) (fun h => nomatch h) (fun _ => ?_)
    refine pwp_skip ?_
    refine n_then ?_
    refine pwx_sr 0 [] (by rfl) (fun K20 hK20 => ?_)
    refine rgnX_take 3 (fun K21 hK21 => ?_)
    simp (disch := omega) only [go_sem, h1, h2]
    refine ⟨_, c_filter_proper _ _, ?_⟩
    refine hK21 _ ?_
    simp (disch := omega) only [go_sem, h1, h2]
    refine hK20 _ ?_
    clear hK21 K21 hK20 K20
    refine pwp_ret ?_
    refine ⟨Or.inr rfl, ?_⟩
    simp (disch := omega) only [go_sem]
    all_goals first | (rw [frF_1 h1]; exact ⟨⟨rfl, rfl⟩, rfl⟩) | (rw [frF_2 h2]; exact ⟨⟨rfl, rfl⟩, rfl⟩) | (rw [frF_y h1 h2]; exact ⟨⟨rfl, rfl⟩, rfl⟩)
set_option maxHeartbeats 4000000 in
theorem c_filter_root (n : Int) (hn : 0 ≤ n) (hn' : n ≤ 2305843009213693952) :
    Ret Tryz.prog 173 [.c (.int .i64 n)] (.t [.c (.int .i64 (sqrtI (n * 65536))), .c (.bool (decide (sqrtI (n * 65536) * sqrtI (n * 65536) = n * 65536)))]) := by
  refine ret_of_body (md := {}) Tryz.func173 (by kernel_rfl) rfl ?_
  simp only [Tryz.f173, List.map_cons, List.map_nil, List.length_cons, List.length_nil, Nat.zero_add, Nat.reduceAdd, Nat.reduceSub, List.reduceReplicate, List.cons_append, List.nil_append]
  haveI := szi_61 (show -2305843009213693953 ≤ n by omega) (show n ≤ 2305843009213693953 by omega)
  obtain ⟨h1, h2⟩ := sqrtI_61 hn hn'
  have hf : fit64 (sqrtI (n * 65536)) = true := fit64_in (by omega) (by omega)
  refine pwx_sr 0 [] (by rfl) (fun K1 hK1 => ?_)
  simp (disch := omega) only [go_sem]
  refine hK1 _ ?_
  clear hK1 K1
  refine pwx_sr 1 [] (by rfl) (fun K2 hK2 => ?_)
  refine rgnX_take 2 (fun K3 hK3 => ?_)
  simp (disch := omega) only [go_sem]
  refine ⟨_, c_integer_FromInt64 _ (by omega) (by omega), ?_⟩
  refine hK3 _ ?_
  refine rgnX_take 1 (fun K4 hK4 => ?_)
  simp (disch := omega) only [go_sem]
  refine ⟨_, c_integer_FromInt64 _ (by omega) (by omega), ?_⟩
  refine hK4 _ ?_
  refine rgnX_take 1 (fun K5 hK5 => ?_)
  simp (disch := omega) only [go_sem]
  refine ⟨_, c_integer_Mul _ _ szi szi, ?_⟩
  refine hK5 _ ?_
  simp (disch := omega) only [go_sem]
  refine hK2 _ ?_
  clear hK5 K5 hK4 K4 hK3 K3 hK2 K2
  refine pwx_sr 1 [] (by rfl) (fun K6 hK6 => ?_)
  refine rgnX_take 2 (fun K7 hK7 => ?_)
  simp (disch := omega) only [go_sem]
  refine ⟨_, c_integer_Sqrt _ szi9, ?_⟩
  refine hK7 _ ?_
  simp (disch := omega) only [go_sem]
  refine hK6 _ ?_
  clear hK7 K7 hK6 K6
  refine pwx_sr 0 [] (by rfl) (fun K8 hK8 => ?_)
  refine rgnX_take 2 (fun K9 hK9 => ?_)
  simp (disch := omega) only [go_sem]
  refine ⟨_, c_integer_Int64 _ szi, ?_⟩
  refine hK9 _ ?_
  simp (disch := omega) only [go_sem]
  refine hK8 _ ?_
  clear hK9 K9 hK8 K8
  refine pwx_sd Tryz.mixed 0 [] (by rfl) [] (by kernel_rfl) (by simp) (fun K10 hK10 => ?_)
  refine rgnX_take 4 (fun K11 hK11 => ?_)
  simp (disch := omega) only [go_sem]
  refine ⟨_, c_integer_Mul _ _ szi szi, ?_⟩
  refine hK11 _ ?_
  refine rgnX_take 2 (fun K12 hK12 => ?_)
  simp (disch := omega) only [go_sem]
  refine ⟨_, c_integer_Cmp _ _ szi szi, ?_⟩
  refine hK12 _ ?_
  simp (disch := omega) only [go_sem]
  refine hK10 _ ?_
  clear hK12 K12 hK11 K11 hK10 K10
  refine pwp_ret ?_
  refine ⟨Or.inr rfl, ?_⟩
  simp (disch := omega) only [go_sem]
  all_goals rw [if_pos hf]
set_option maxHeartbeats 4000000 in
theorem c_filter_Sqrt (i : Iv) (hi : i.Bd) :
    Ret Tryz.prog 160 [.a [.int .i64 i.lo, .int .i64 i.hi]] (.t [.a [.int .i64 (sqF i).lo, .int .i64 (sqF i).hi], .c (.bool (sqF i).ok)]) := by
  refine ret_of_body (md := {}) Tryz.func160 (by kernel_rfl) rfl ?_
  simp only [Tryz.f160, List.map_cons, List.map_nil, List.length_cons, List.length_nil, Nat.zero_add, Nat.reduceAdd, Nat.reduceSub, List.reduceReplicate, List.cons_append, List.nil_append]
  obtain ⟨i1, i2, i3⟩ := hi
  refine pwx_sr 2 [] (by rfl) (fun K1 hK1 => ?_)
  simp (disch := omega) only [go_sem]
  refine hK1 _ ?_
  clear hK1 K1
  refine pwp_seq ?_
  refine pwx_sr 0 [] (by rfl) (fun K2 hK2 => ?_)
  simp (disch := omega) only [go_sem]
  refine hK2 _ ?_
  clear hK2 K2
  refine pwp_cond (b := _) (by rfl) (fun hb0 => ?_) (fun hb0 => ?_)
  · first | replace hb0 := of_decide_eq_true hb0 | replace hb0 := of_decide_eq_false hb0 | skip
    refine pwx_sr 0 [] (by rfl) (fun K3 hK3 => ?_)
    simp (disch := omega) only [go_sem]
    refine hK3 _ ?_
    clear hK3 K3
    refine pwp_ret ?_
    refine r_then ?_
    refine ⟨Or.inr rfl, ?_⟩
    simp (disch := omega) only [go_sem]
    all_goals first | (rw [sqF_n hb0]; exact ⟨⟨rfl, rfl⟩, rfl⟩) | (rw [sqF_y hb0 hb1]; exact ⟨⟨rfl, rfl⟩, rfl⟩)
  · replace hb0 := of_decide_eq_false hb0
    have hm : 0 ≤ (if i.lo < 0 then 0 else i.lo) ∧ (if i.lo < 0 then 0 else i.lo) ≤ 2305843009213693952 := by split <;> omega
    obtain ⟨hm1, hm2⟩ := hm
    obtain ⟨q1, q2⟩ := sqrtI_61 (z := i.hi) (by omega) (by omega)
    refine pwp_skip ?_
    refine n_then ?_
    refine pwx_sr 0 [] (by rfl) (fun K4 hK4 => ?_)
    refine rgnX_take 4 (fun K5 hK5 => ?_)
    simp (disch := omega) only [go_sem]
    refine ⟨_, c_filter_root _ (by omega) (by omega), ?_⟩
    refine hK5 _ ?_
    simp (disch := omega) only [go_sem]
    refine hK4 _ ?_
    clear hK5 K5 hK4 K4
    refine pwx_sr 0 [] (by rfl) (fun K6 hK6 => ?_)
    refine rgnX_take 3 (fun K7 hK7 => ?_)
    simp (disch := omega) only [go_sem]
    refine ⟨_, c_filter_root _ (by omega) (by omega), ?_⟩
    refine hK7 _ ?_
    simp (disch := omega) only [go_sem]
    refine hK6 _ ?_
    clear hK7 K7 hK6 K6
    refine pwp_seq ?_
    refine pwx_sr 0 [] (by rfl) (fun K8 hK8 => ?_)
    simp (disch := omega) only [go_sem]
    refine hK8 _ ?_
    clear hK8 K8
    refine pwp_cond (b := _) (by rfl) (fun hb1 => ?_) (fun hb1 => ?_)
    · replace hb1 := not_t hb1
      refine pwx_region 0 [] (by rfl) (fun K9 hK9 => ?_)
      simp (disch := omega) only [go_sem]
      refine hK9 _ ?_
      clear hK9 K9
      refine n_then ?_
      refine pwx_sr 0 [] (by rfl) (fun K10 hK10 => ?_)
      refine rgnX_take 3 (fun K11 hK11 => ?_)
      simp (disch := omega) only [go_sem]
      refine ⟨_, c_filter_proper _ _, ?_⟩
      refine hK11 _ ?_
      simp (disch := omega) only [go_sem]
      refine hK10 _ ?_
      clear hK11 K11 hK10 K10
      refine pwp_ret ?_
      refine ⟨Or.inr rfl, ?_⟩
      simp (disch := omega) only [go_sem]
      all_goals first | (rw [sqF_n hb0]; exact ⟨⟨rfl, rfl⟩, rfl⟩) | (rw [sqF_y hb0 hb1]; exact ⟨⟨rfl, rfl⟩, rfl⟩)
    · replace hb1 := not_f hb1
      refine pwp_skip ?_
      refine n_then ?_
      refine pwx_sr 0 [] (by rfl) (fun K12 hK12 => ?_)
      refine rgnX_take 3 (fun K13 hK13 => ?_)
      simp (disch := omega) only [go_sem]
      refine ⟨_, c_filter_proper _ _, ?_⟩
      refine hK13 _ ?_
      simp (disch := omega) only [go_sem]
      refine hK12 _ ?_
      clear hK13 K13 hK12 K12
      refine pwp_ret ?_
      refine ⟨Or.inr rfl, ?_⟩
      simp (disch := omega) only [go_sem]
      all_goals first | (rw [sqF_n hb0]; exact ⟨⟨rfl, rfl⟩, rfl⟩) | (rw [sqF_y hb0 hb1]; exact ⟨⟨rfl, rfl⟩, rfl⟩)

end Go.Proofs.YtbadkjfjdkbgfaaGreat

set_option linter.unusedSimpArgs false
set_option linter.unusedVariables false
set_option maxRecDepth 20000
namespace Go.Proofs.YtbadkjfjdkbgfaaGreat
open Go Go.PL Go.RL
set_option maxHeartbeats 4000000 in
theorem c_filter_Mul (i j : Iv) (hi : i.Bd) (hj : j.Bd) :
    Ret Tryz.prog 161 [.a [.int .i64 i.lo, .int .i64 i.hi], .a [.int .i64 j.lo, .int .i64 j.hi]] (.t [.a [.int .i64 (muF i j).lo, .int .i64 (muF i j).hi], .c (.bool (muF i j).ok)]) := by
  refine ret_of_body (md := {}) Tryz.func161 (by kernel_rfl) rfl ?_
  simp only [Tryz.f161, List.map_cons, List.map_nil, List.length_cons, List.length_nil, Nat.zero_add, Nat.reduceAdd, Nat.reduceSub, List.reduceReplicate, List.cons_append, List.nil_append]
  refine pwx_sr 3 [] (by rfl) (fun K1 hK1 => ?_)
  simp (disch := omega) only [go_sem]
  refine hK1 _ ?_
  clear hK1 K1
  refine pwx_sr 0 [] (by rfl) (fun K2 hK2 => ?_)
  simp (disch := omega) only [go_sem]
  refine hK2 _ ?_
  clear hK2 K2
  refine pwp_seq ?_
  refine pwx_sr 1 [] (by rfl) (fun K3 hK3 => ?_)
  simp (disch := omega) only [go_sem]
  refine hK3 _ ?_
  clear hK3 K3
  refine pwp_block ?_
  refine pwp_loopF (false :: false :: true :: true :: true :: true :: true :: true :: false :: false :: false :: false :: false :: false :: false :: false :: false :: false :: false :: true :: true :: true :: false :: false :: false :: false :: false :: false :: false :: false :: false :: false :: false :: false :: false :: false :: false :: false :: false :: false :: false :: false :: false :: false :: false :: false :: false :: false :: false :: false :: false :: false :: false :: false :: false :: false :: []) 4 (fun M s => ∃ u : Nat, (u ≤ 2) ∧ (∀ k, k < 2 * u → (prs i j k).ok = true) ∧ 2 - u = M ∧ s = { slots := .j :: .j :: .e (.c (.ptr 0 0)) :: .e (.c (.ptr 1 0)) :: .e (.c (.ptr 2 0)) :: .e (.c (.bool false)) :: .e (.c (.int .i64 (mlo i j (2 * u)))) :: .e (.c (.int .i64 (mhi i j (2 * u)))) :: .j :: .j :: .j :: .j :: .j :: .j :: .j :: .j :: .j :: .j :: .j :: .e (.c (.sl 2 [.int .i64 i.lo, .int .i64 i.hi])) :: .e (.c (.int .i64 ((2 : Nat) : Int))) :: .e (.c (.int .i64 (u : Int))) :: .j :: .j :: .j :: .j :: .j :: .j :: .j :: .j :: .j :: .j :: .j :: .j :: .j :: .j :: .j :: .j :: .j :: .j :: .j :: .j :: .j :: .j :: .j :: .j :: .j :: .j :: .j :: .j :: .j :: .j :: .j :: .j :: .j :: .j :: [], st := [.live [.int .i64 i.lo, .int .i64 i.hi], .live [.int .i64 j.lo, .int .i64 j.hi], .live [.int .i64 0, .int .i64 0], .gone] }) (n := 2) rfl ?_ ?_ ?_
  · refine ⟨0, ?_, ?_, rfl, ?_⟩
    · omega
    · intro k h; omega
    · first | rfl | (simp only [St.cut, keep, if_true, if_false, Bool.false_eq_true, List.take_succ_cons, List.take_zero, List.take_nil]; try simp)
  · refine ⟨rfl, ?_, ?_⟩ <;> first | rfl | (simp [keep, PV.lt, PE.lt, PC.lt, Box.lt, ↓lC_lt]; done) | simp [keep, PV.lt, PE.lt, PC.lt, Box.lt, ↓lC_lt, ↓intC_lt, ↓ratC_lt, ↓u32s_lt]
  · rintro _ _ ⟨u, hu2, hk, rfl, rfl⟩
    obtain ⟨a1, a2⟩ := sel_bd hi u
    refine pwx_sr 0 [] (by rfl) (fun K4 hK4 => ?_)
    simp (disch := omega) only [go_sem]
    refine hK4 _ ?_
    clear hK4 K4
    refine pwp_seq ?_
    refine pwp_cond (b := _) (by rfl) (fun hb0 => ?_) (fun hb0 => ?_)
    · have hu : u < 2 := by have := of_decide_eq_true hb0; omega
      refine pwp_skip ?_
      refine n_then ?_
      refine pwp_seq ?_
      refine pwp_block ?_
      refine pwx_sr 0 [] (by rfl) (fun K5 hK5 => ?_)
      simp (disch := omega) only [go_sem, idx_iv]
      refine hK5 _ ?_
      clear hK5 K5
      refine pwx_sr 1 [] (by rfl) (fun K6 hK6 => ?_)
      simp (disch := omega) only [go_sem]
      refine hK6 _ ?_
      clear hK6 K6
      refine pwp_block ?_
      refine pwp_loopF (false :: false :: true :: true :: true :: true :: true :: true :: false :: true :: false :: false :: false :: false :: false :: false :: false :: false :: false :: true :: true :: true :: false :: false :: false :: false :: false :: false :: false :: true :: true :: true :: false :: false :: false :: false :: false :: false :: false :: false :: false :: false :: false :: false :: false :: false :: false :: false :: false :: false :: false :: false :: false :: false :: false :: false :: []) 5 (fun M s => ∃ v : Nat, (v ≤ 2) ∧ (∀ k, k < 2 * u + v → (prs i j k).ok = true) ∧ 2 - v = M ∧ s = { slots := .j :: .j :: .e (.c (.ptr 0 0)) :: .e (.c (.ptr 1 0)) :: .e (.c (.ptr 2 0)) :: .e (.c (.bool false)) :: .e (.c (.int .i64 (mlo i j (2 * u + v)))) :: .e (.c (.int .i64 (mhi i j (2 * u + v)))) :: .j :: .e (.c (.int .i64 (sel i u))) :: .j :: .j :: .j :: .j :: .j :: .j :: .j :: .j :: .j :: .e (.c (.sl 2 [.int .i64 i.lo, .int .i64 i.hi])) :: .e (.c (.int .i64 ((2 : Nat) : Int))) :: .e (.c (.int .i64 (u : Int))) :: .j :: .j :: .j :: .j :: .j :: .j :: .j :: .e (.c (.sl 2 [.int .i64 j.lo, .int .i64 j.hi])) :: .e (.c (.int .i64 ((2 : Nat) : Int))) :: .e (.c (.int .i64 (v : Int))) :: .j :: .j :: .j :: .j :: .j :: .j :: .j :: .j :: .j :: .j :: .j :: .j :: .j :: .j :: .j :: .j :: .j :: .j :: .j :: .j :: .j :: .j :: .j :: .j :: [], st := [.live [.int .i64 i.lo, .int .i64 i.hi], .live [.int .i64 j.lo, .int .i64 j.hi], .live [.int .i64 0, .int .i64 0], .gone, .gone] }) (n := 2) rfl ?_ ?_ ?_
      · refine ⟨0, ?_, ?_, rfl, ?_⟩
        · omega
        · exact hk
        · first | rfl | (simp only [St.cut, keep, if_true, if_false, Bool.false_eq_true, List.take_succ_cons, List.take_zero, List.take_nil]; try simp)
      · refine ⟨rfl, ?_, ?_⟩ <;> first | rfl | (simp [keep, PV.lt, PE.lt, PC.lt, Box.lt, ↓lC_lt]; done) | simp [keep, PV.lt, PE.lt, PC.lt, Box.lt, ↓lC_lt, ↓intC_lt, ↓ratC_lt, ↓u32s_lt]
      · rintro _ _ ⟨v, hv2, hk2, rfl, rfl⟩
        obtain ⟨b1, b2⟩ := sel_bd hj v
        refine pwx_sr 0 [] (by rfl) (fun K7 hK7 => ?_)
        simp (disch := omega) only [go_sem]
        refine hK7 _ ?_
        clear hK7 K7
        refine pwp_seq ?_
        refine pwp_cond (b := _) (by rfl) (fun hb1 => ?_) (fun hb1 => ?_)
        · have hv : v < 2 := by have := of_decide_eq_true hb1; omega
          refine pwp_skip ?_
          refine n_then ?_
          refine pwp_seq ?_
          refine pwp_block ?_
          refine pwx_sr 0 [] (by rfl) (fun K8 hK8 => ?_)
          simp (disch := omega) only [go_sem, idx_iv]
          refine hK8 _ ?_
          clear hK8 K8
          refine pwx_sr 0 [] (by rfl) (fun K9 hK9 => ?_)
          refine rgnX_take 3 (fun K10 hK10 => ?_)
          simp (disch := omega) only [go_sem]
          refine ⟨_, c_filter_scaled _ _ (by omega) (by omega) (by omega) (by omega), ?_⟩
          refine hK10 _ ?_
          simp (disch := omega) only [go_sem]
          refine hK9 _ ?_
          clear hK10 K10 hK9 K9
          refine pwp_seq ?_
          refine pwx_sr 0 [] (by rfl) (fun K11 hK11 => ?_)
          simp (disch := omega) only [go_sem]
          refine hK11 _ ?_
          clear hK11 K11
          refine pwp_cond (b := _) (by rfl) (fun hb2 => ?_) (fun hb2 => ?_)
          · replace hb2 := not_t hb2
            refine pwx_sr 0 [] (by rfl) (fun K12 hK12 => ?_)
            simp (disch := omega) only [go_sem]
            refine hK12 _ ?_
            clear hK12 K12
            refine pwp_ret ?_
            refine r_then ?_
            refine r_block ?_
            refine r_then ?_
            refine r_then ?_
            refine r_block ?_
            refine r_block ?_
            refine r_then ?_
            refine r_then ?_
            refine r_block ?_
            refine r_then ?_
            refine ⟨Or.inr rfl, ?_⟩
            simp (disch := omega) only [go_sem]
            rw [muF_n hu hv hb2]; exact ⟨⟨rfl, rfl⟩, rfl⟩
          · replace hb2 := not_f hb2
            refine pwp_skip ?_
            refine n_then ?_
            refine pwx_region 0 [] (by rfl) (fun K13 hK13 => ?_)
            simp (disch := omega) only [go_sem]
            refine hK13 _ ?_
            clear hK13 K13
            refine n_block ?_
            refine n_then ?_
            refine pwx_region 0 [] (by rfl) (fun K14 hK14 => ?_)
            simp (disch := omega) only [go_sem]
            refine hK14 _ ?_
            clear hK14 K14
            refine n_then ?_
            rw [← mlo_uv hu hv, ← mhi_uv hu hv]
            refine ⟨_, ?hdec, ⟨v + 1, ?hf0, ?hf1, rfl, ?heq⟩, ?hok⟩
            case heq => first | rfl | (simp only [St.cut, keep, if_true, if_false, Bool.false_eq_true, List.take_succ_cons, List.take_zero, List.take_nil]; try simp)
            case hf0 => omega
            case hf1 => exact prs_step hu hv hk2 hb2
            case hdec => omega
            case hok => refine ⟨rfl, ?_, ?_⟩ <;> first | rfl | (simp [keep, PV.lt, PE.lt, PC.lt, Box.lt, ↓lC_lt]; done) | simp [keep, PV.lt, PE.lt, PC.lt, Box.lt, ↓lC_lt, ↓intC_lt, ↓ratC_lt, ↓u32s_lt]
        · obtain rfl : v = 2 := by have := of_decide_eq_false hb1; omega
          refine pwp_exit ?_
          refine e_then ?_
          refine e_then ?_
          refine e_here ?_
          refine n_block ?_
          refine n_then ?_
          refine pwx_region 0 [] (by rfl) (fun K15 hK15 => ?_)
          simp (disch := omega) only [go_sem]
          refine hK15 _ ?_
          clear hK15 K15
          refine n_then ?_
          refine ⟨_, ?hdec, ⟨u + 1, ?hf0, ?hf1, rfl, ?heq⟩, ?hok⟩
          case heq => first | rfl | (simp only [St.cut, keep, if_true, if_false, Bool.false_eq_true, List.take_succ_cons, List.take_zero, List.take_nil]; try simp)
          case hf0 => omega
          case hf1 => exact hk2
          case hdec => omega
          case hok => refine ⟨rfl, ?_, ?_⟩ <;> first | rfl | (simp [keep, PV.lt, PE.lt, PC.lt, Box.lt, ↓lC_lt]; done) | simp [keep, PV.lt, PE.lt, PC.lt, Box.lt, ↓lC_lt, ↓intC_lt, ↓ratC_lt, ↓u32s_lt]
    · obtain rfl : u = 2 := by have := of_decide_eq_false hb0; omega
      refine pwp_exit ?_
      refine e_then ?_
      refine e_then ?_
      refine e_here ?_
      refine n_then ?_
      refine pwx_sr 0 [] (by rfl) (fun K16 hK16 => ?_)
      simp (disch := omega) only [go_sem]
      refine hK16 _ ?_
      clear hK16 K16
      refine pwp_ret ?_
      refine ⟨Or.inr rfl, ?_⟩
      simp (disch := omega) only [go_sem]
      rw [muF_y hk]; exact ⟨⟨rfl, rfl⟩, rfl⟩

end Go.Proofs.YtbadkjfjdkbgfaaGreat

namespace Go.PL
open Go.RL
/-- Root -/
def rooF (a b c : Rat) : Iv :=
  if (frF a).ok = false ∨ b = 0 then frF a else
  if (frF b).ok = false ∨ (frF c).ok = false ∨ c < 0 then Iv.no else
  if (sqF (frF c)).ok = false then Iv.no else
  if (muF (frF b) (sqF (frF c))).ok = false then Iv.no else
  adF (frF a) (muF (frF b) (sqF (frF c)))
variable {a b c : Rat}
theorem rooF_1 (h : (frF a).ok = false ∨ b = 0) : rooF a b c = frF a := if_pos h
theorem rooF_2 (h : ¬ ((frF a).ok = false ∨ b = 0)) (h' : (frF b).ok = false ∨ (frF c).ok = false ∨ c < 0) : rooF a b c = Iv.no := by
  unfold rooF; rw [if_neg h, if_pos h']
theorem rooF_3 (h : ¬ ((frF a).ok = false ∨ b = 0)) (h' : ¬ ((frF b).ok = false ∨ (frF c).ok = false ∨ c < 0)) (h2 : (sqF (frF c)).ok = false) : rooF a b c = Iv.no := by
  unfold rooF; rw [if_neg h, if_neg h', if_pos h2]
theorem rooF_4 (h : ¬ ((frF a).ok = false ∨ b = 0)) (h' : ¬ ((frF b).ok = false ∨ (frF c).ok = false ∨ c < 0)) (h2 : (sqF (frF c)).ok = true) (h3 : (muF (frF b) (sqF (frF c))).ok = false) : rooF a b c = Iv.no := by
  unfold rooF; rw [if_neg h, if_neg h', if_neg (by rw [h2]; simp), if_pos h3]
theorem rooF_5 (h : ¬ ((frF a).ok = false ∨ b = 0)) (h' : ¬ ((frF b).ok = false ∨ (frF c).ok = false ∨ c < 0)) (h2 : (sqF (frF c)).ok = true) (h3 : (muF (frF b) (sqF (frF c))).ok = true) : rooF a b c = adF (frF a) (muF (frF b) (sqF (frF c))) := by
  unfold rooF; rw [if_neg h, if_neg h', if_neg (by rw [h2]; simp), if_neg (by rw [h3]; simp)]
theorem rooF_bd (a b c : Rat) : (rooF a b c).Bd := by
  unfold rooF
  repeat' split
  · exact frF_bd _
  · exact Iv.Bd.no
  · exact Iv.Bd.no
  · exact Iv.Bd.no
  · exact adF_bd (frF_bd _) (muF_bd _ _)
theorem inI_eqv {lo hi : Int} {x y : Re} (h : eqv x y) (h' : inI lo hi x) : inI lo hi y :=
  ⟨(sgn_eqv (eqv_sub (eqv_mul (eqv_refl _) h) (eqv_refl _))) ▸ h'.1, (sgn_eqv (eqv_sub (eqv_refl _) (eqv_mul (eqv_refl _) h))) ▸ h'.2⟩
theorem v2_b0 (a c : Rat) : v2 a 0 c = Re.of a := by
  apply Re.ext; intro n
  show a + 0 * (rt c).s n = a
  grind
theorem bfalse {b : Bool} (h : ¬ b = false) : b = true := by cases b <;> simp_all
/-- What the interval of a root contains. -/
theorem rooF_ok (h : (rooF a b c).ok = true) : inI (rooF a b c).lo (rooF a b c).hi (v2 a b c) := by
  by_cases h1 : (frF a).ok = false ∨ b = 0
  · rw [rooF_1 h1] at h ⊢
    rcases h1 with h1 | rfl
    · rw [h] at h1; cases h1
    · rw [v2_b0]; exact frF_ok h
  · by_cases h2 : (frF b).ok = false ∨ (frF c).ok = false ∨ c < 0
    · rw [rooF_2 h1 h2] at h; cases h
    · rcases h3 : (sqF (frF c)).ok with _ | _
      · rw [rooF_3 h1 h2 h3] at h; cases h
      · rcases h4 : (muF (frF b) (sqF (frF c))).ok with _ | _
        · rw [rooF_4 h1 h2 h3 h4] at h; cases h
        · rw [rooF_5 h1 h2 h3 h4] at h ⊢
          simp only [not_or] at h1 h2
          have a1 := bfalse h1.1; have b1 := bfalse h2.1; have c1 := bfalse h2.2.1
          have c0 : 0 ≤ c := Rat.not_lt.1 h2.2.2
          exact adF_ok h (frF_ok a1) (muF_ok h4 (frF_ok b1) (sqF_ok c0 h3 (frF_ok c1)))
end Go.PL

set_option linter.unusedSimpArgs false
set_option linter.unusedVariables false
set_option maxRecDepth 20000
namespace Go.Proofs.YtbadkjfjdkbgfaaGreat
open Go Go.PL Go.RL
set_option maxHeartbeats 4000000 in
theorem c_filter_Root (a b c : Rat) {k l m : Nat} [SzR a k] [SzR b l] [SzR c m] (hk : k + l + m ≤ 20000) :
    Ret Tryz.prog 135 [.a (ratC (a) ++ (ratC (b) ++ ratC (c)))] (.t [.a [.int .i64 (rooF a b c).lo, .int .i64 (rooF a b c).hi], .c (.bool (rooF a b c).ok)]) := by
  refine ret_of_body (md := {}) Tryz.func135 (by kernel_rfl) rfl ?_
  simp only [Tryz.f135, List.map_cons, List.map_nil, List.length_cons, List.length_nil, Nat.zero_add, Nat.reduceAdd, Nat.reduceSub, List.reduceReplicate, List.cons_append, List.nil_append]
  refine pwx_sr 2 [] (by rfl) (fun K1 hK1 => ?_)
  simp (disch := omega) only [go_sem]
  refine hK1 _ ?_
  clear hK1 K1
  refine pwx_sr 1 [] (by rfl) (fun K2 hK2 => ?_)
  refine rgnX_take 3 (fun K3 hK3 => ?_)
  simp (disch := omega) only [go_sem]
  refine ⟨_, c_filter_FromRat _ (by omega), ?_⟩
  refine hK3 _ ?_
  simp (disch := omega) only [go_sem]
  refine hK2 _ ?_
  clear hK3 K3 hK2 K2
  refine pwp_seq ?_
  rcases h1 : (frF a).ok with _ | _
  · refine pwx_sr 0 [some 15, some 16, some 17, some 18, some 19, some 20, some 21, some 22] (by rfl) (fun K4 hK4 => ?_)
    refine rgnX_take 6 (fun K5 hK5 => ?_)
    simp (disch := omega) only [go_sem, h1]
    first | refine ⟨_, c_rational_Sign _, ?_⟩ | skip
    refine hK5 _ ?_
    simp (disch := omega) only [go_sem, h1]
    refine hK4 _ ?_
    clear hK5 K5 hK4 K4
    refine pwp_cond (b := true) (by rfl) (fun _ => ?_) (fun h => nomatch h)
    refine pwx_sr 0 [] (by rfl) (fun K6 hK6 => ?_)
    simp (disch := omega) only [go_sem]
    refine hK6 _ ?_
    clear hK6 K6
    refine pwp_ret ?_
    refine r_then ?_
    refine ⟨Or.inr rfl, ?_⟩
    simp (disch := omega) only [go_sem]
    rw [rooF_1 (Or.inl h1)]; exact ⟨⟨rfl, rfl⟩, h1⟩
  · refine pwx_sr 0 [some 15, some 16, some 17, some 18, some 19, some 20, some 21, some 22] (by rfl) (fun K7 hK7 => ?_)
    refine rgnX_take 6 (fun K8 hK8 => ?_)
    simp (disch := omega) only [go_sem, h1]
    first | refine ⟨_, c_rational_Sign _, ?_⟩ | skip
    refine hK8 _ ?_
    simp (disch := omega) only [go_sem, h1]
    refine hK7 _ ?_
    clear hK8 K8 hK7 K7
    refine pwp_cond (b := _) (by rfl) (fun hb1 => ?_) (fun hb1 => ?_)
    · first | replace hb1 := of_decide_eq_true hb1 | replace hb1 := of_decide_eq_false hb1 | skip
      refine pwx_sr 0 [] (by rfl) (fun K9 hK9 => ?_)
      simp (disch := omega) only [go_sem]
      refine hK9 _ ?_
      clear hK9 K9
      refine pwp_ret ?_
      refine r_then ?_
      refine ⟨Or.inr rfl, ?_⟩
      simp (disch := omega) only [go_sem]
      rw [rooF_1 (Or.inr (by assumption))]; exact ⟨⟨rfl, rfl⟩, h1⟩
    · first | replace hb1 := of_decide_eq_true hb1 | replace hb1 := of_decide_eq_false hb1 | skip
      refine pwp_skip ?_
      refine n_then ?_
      refine pwx_sr 1 [] (by rfl) (fun K10 hK10 => ?_)
      refine rgnX_take 3 (fun K11 hK11 => ?_)
      simp (disch := omega) only [go_sem]
      refine ⟨_, c_filter_FromRat _ (by omega), ?_⟩
      refine hK11 _ ?_
      simp (disch := omega) only [go_sem]
      refine hK10 _ ?_
      clear hK11 K11 hK10 K10
      refine pwx_sr 1 [] (by rfl) (fun K12 hK12 => ?_)
      refine rgnX_take 3 (fun K13 hK13 => ?_)
      simp (disch := omega) only [go_sem]
      refine ⟨_, c_filter_FromRat _ (by omega), ?_⟩
      refine hK13 _ ?_
      simp (disch := omega) only [go_sem]
      refine hK12 _ ?_
      clear hK13 K13 hK12 K12
      refine pwp_seq ?_
      rcases h2 : (frF b).ok with _ | _ <;> rcases h3 : (frF c).ok with _ | _
      · refine pwx_sr 0 [some 37, some 38, some 39, some 40, some 41, some 42, some 43, some 44, some 45, some 46, some 47, some 48] (by rfl) (fun K14 hK14 => ?_)
        refine rgnX_take 10 (fun K15 hK15 => ?_)
        simp (disch := omega) only [go_sem, h2, h3]
        first | refine ⟨_, c_rational_Sign _, ?_⟩ | skip
        refine hK15 _ ?_
        simp (disch := omega) only [go_sem, h2, h3]
        refine hK14 _ ?_
        clear hK15 K15 hK14 K14
        refine pwp_cond (b := true) (by rfl) (fun _ => ?_) (fun h => nomatch h)
        refine pwx_sr 0 [] (by rfl) (fun K16 hK16 => ?_)
        simp (disch := omega) only [go_sem]
        refine hK16 _ ?_
        clear hK16 K16
        refine pwp_ret ?_
        refine r_then ?_
        refine ⟨Or.inr rfl, ?_⟩
        simp (disch := omega) only [go_sem]
        rw [rooF_2 (by simp_all) (by simp_all)]; exact ⟨⟨rfl, rfl⟩, rfl⟩
      · refine pwx_sr 0 [some 37, some 38, some 39, some 40, some 41, some 42, some 43, some 44, some 45, some 46, some 47, some 48] (by rfl) (fun K17 hK17 => ?_)
        refine rgnX_take 10 (fun K18 hK18 => ?_)
        simp (disch := omega) only [go_sem, h2, h3]
        first | refine ⟨_, c_rational_Sign _, ?_⟩ | skip
        refine hK18 _ ?_
        simp (disch := omega) only [go_sem, h2, h3]
        refine hK17 _ ?_
        clear hK18 K18 hK17 K17
        refine pwp_cond (b := true) (by rfl) (fun _ => ?_) (fun h => nomatch h)
        refine pwx_sr 0 [] (by rfl) (fun K19 hK19 => ?_)
        simp (disch := omega) only [go_sem]
        refine hK19 _ ?_
        clear hK19 K19
        refine pwp_ret ?_
        refine r_then ?_
        refine ⟨Or.inr rfl, ?_⟩
        simp (disch := omega) only [go_sem]
        rw [rooF_2 (by simp_all) (by simp_all)]; exact ⟨⟨rfl, rfl⟩, rfl⟩
      · refine pwx_sr 0 [some 37, some 38, some 39, some 40, some 41, some 42, some 43, some 44, some 45, some 46, some 47, some 48] (by rfl) (fun K20 hK20 => ?_)
        refine rgnX_take 10 (fun K21 hK21 => ?_)
        simp (disch := omega) only [go_sem, h2, h3]
        first | refine ⟨_, c_rational_Sign _, ?_⟩ | skip
        refine hK21 _ ?_
        simp (disch := omega) only [go_sem, h2, h3]
        refine hK20 _ ?_
        clear hK21 K21 hK20 K20
        refine pwp_cond (b := true) (by rfl) (fun _ => ?_) (fun h => nomatch h)
        refine pwx_sr 0 [] (by rfl) (fun K22 hK22 => ?_)
        simp (disch := omega) only [go_sem]
        refine hK22 _ ?_
        clear hK22 K22
        refine pwp_ret ?_
        refine r_then ?_
        refine ⟨Or.inr rfl, ?_⟩
        simp (disch := omega) only [go_sem]
        rw [rooF_2 (by simp_all) (by simp_all)]; exact ⟨⟨rfl, rfl⟩, rfl⟩
      · refine pwx_sr 0 [some 37, some 38, some 39, some 40, some 41, some 42, some 43, some 44, some 45, some 46, some 47, some 48] (by rfl) (fun K23 hK23 => ?_)
        refine rgnX_take 10 (fun K24 hK24 => ?_)
        simp (disch := omega) only [go_sem, h2, h3]
        first | refine ⟨_, c_rational_Sign _, ?_⟩ | skip
        refine hK24 _ ?_
        simp (disch := omega) only [go_sem, h2, h3]
        refine hK23 _ ?_
        clear hK24 K24 hK23 K23
        refine pwp_cond (b := _) (by rfl) (fun hb5 => ?_) (fun hb5 => ?_)
        · first | replace hb5 := of_decide_eq_true hb5 | replace hb5 := of_decide_eq_false hb5 | skip
          refine pwx_sr 0 [] (by rfl) (fun K25 hK25 => ?_)
          simp (disch := omega) only [go_sem]
          refine hK25 _ ?_
          clear hK25 K25
          refine pwp_ret ?_
          refine r_then ?_
          refine ⟨Or.inr rfl, ?_⟩
          simp (disch := omega) only [go_sem]
          rw [rooF_2 (by simp_all) (by simp_all)]; exact ⟨⟨rfl, rfl⟩, rfl⟩
        · first | replace hb5 := of_decide_eq_true hb5 | replace hb5 := of_decide_eq_false hb5 | skip
          refine pwp_skip ?_
          refine n_then ?_
          refine pwp_seq ?_
          refine pwx_sr 0 [] (by rfl) (fun K26 hK26 => ?_)
          refine rgnX_take 2 (fun K27 hK27 => ?_)
          simp (disch := omega) only [go_sem]
          refine ⟨_, c_filter_Sqrt _ (frF_bd _), ?_⟩
          refine hK27 _ ?_
          simp (disch := omega) only [go_sem]
          refine hK26 _ ?_
          clear hK27 K27 hK26 K26
          rcases h4 : (sqF (frF c)).ok with _ | _
          · refine pwx_sr 0 [] (by rfl) (fun K28 hK28 => ?_)
            simp (disch := omega) only [go_sem, h4]
            refine hK28 _ ?_
            clear hK28 K28
            refine pwp_cond (b := true) (by rfl) (fun _ => ?_) (fun h => nomatch h)
            refine pwx_sr 0 [] (by rfl) (fun K29 hK29 => ?_)
            simp (disch := omega) only [go_sem]
            refine hK29 _ ?_
            clear hK29 K29
            refine pwp_ret ?_
            refine r_then ?_
            refine ⟨Or.inr rfl, ?_⟩
            simp (disch := omega) only [go_sem]
            rw [rooF_3 (by simp_all) (by simp_all) h4]; exact ⟨⟨rfl, rfl⟩, rfl⟩
          · refine pwx_sr 0 [] (by rfl) (fun K30 hK30 => ?_)
            simp (disch := omega) only [go_sem, h4]
            refine hK30 _ ?_
            clear hK30 K30
            refine pwp_cond (b := false) (by rfl) (fun h => nomatch h) (fun _ => ?_)
            refine pwp_skip ?_
            refine n_then ?_
            refine pwp_seq ?_
            refine pwx_sr 0 [] (by rfl) (fun K31 hK31 => ?_)
            refine rgnX_take 3 (fun K32 hK32 => ?_)
            simp (disch := omega) only [go_sem]
            refine ⟨_, c_filter_Mul _ _ (frF_bd _) (sqF_bd (frF_bd _)), ?_⟩
            refine hK32 _ ?_
            simp (disch := omega) only [go_sem]
            refine hK31 _ ?_
            clear hK32 K32 hK31 K31
            rcases h5 : (muF (frF b) (sqF (frF c))).ok with _ | _
            · refine pwx_sr 0 [] (by rfl) (fun K33 hK33 => ?_)
              simp (disch := omega) only [go_sem, h5]
              refine hK33 _ ?_
              clear hK33 K33
              refine pwp_cond (b := true) (by rfl) (fun _ => ?_) (fun h => nomatch h)
              refine pwx_sr 0 [] (by rfl) (fun K34 hK34 => ?_)
              simp (disch := omega) only [go_sem]
              refine hK34 _ ?_
              clear hK34 K34
              refine pwp_ret ?_
              refine r_then ?_
              refine ⟨Or.inr rfl, ?_⟩
              simp (disch := omega) only [go_sem]
              rw [rooF_4 (by simp_all) (by simp_all) h4 h5]; exact ⟨⟨rfl, rfl⟩, rfl⟩
            · refine pwx_sr 0 [] (by rfl) (fun K35 hK35 => ?_)
              simp (disch := omega) only [go_sem, h5]
              refine hK35 _ ?_
              clear hK35 K35
              refine pwp_cond (b := false) (by rfl) (fun h => nomatch h) (fun _ => ?_)
              refine pwp_skip ?_
              refine n_then ?_
              refine pwx_sr 0 [] (by rfl) (fun K36 hK36 => ?_)
              refine rgnX_take 3 (fun K37 hK37 => ?_)
              simp (disch := omega) only [go_sem]
              refine ⟨_, c_filter_Add _ _ (frF_bd _) (muF_bd _ _), ?_⟩
              refine hK37 _ ?_
              simp (disch := omega) only [go_sem]
              refine hK36 _ ?_
              clear hK37 K37 hK36 K36
              refine pwp_ret ?_
              refine ⟨Or.inr rfl, ?_⟩
              simp (disch := omega) only [go_sem]
              rw [rooF_5 (by simp_all) (by simp_all) h4 h5]; exact ⟨⟨rfl, rfl⟩, rfl⟩

end Go.Proofs.YtbadkjfjdkbgfaaGreat

namespace Go.PL
open Go.RowKit
section
variable {P : Program} {Q : Exit → St → Prop}
theorem retW_of_bodyP {f : FuncId} {fn : Func} {c : Code} (hf : P.funcs[f]? = some fn) (hname : (fn.name == "runtime.NumGoroutine") = false) (hb : fn.body = some c) {off : Nat} {rest : List PE} {cs : List PC} {md : Md} (hfz : md.fz = false)
    (hrest : rest.all PE.im = true) (hcs : cs.all PC.im = true) (T : PV → List PC → Prop)
    (h : PWp P md c { slots := (.e (.c (.ptr 0 off))) :: (rest.map .e ++ List.replicate (fn.ntmps - (rest.length + 1)) (.t [])), st := [.live cs] } fun e s => (e = .normal ∨ e = .ret) ∧ ∃ l, resAll P s fn.results.toList = some l ∧ l.all PE.im = true ∧ ∃ cs', cs'.all PC.im = true ∧ T (pack (l.map PE.norm)) cs' ∧ ∃ τ, s.st = .live cs' :: τ)
    (id : Nat) (σ : List Box) (hid : σ[id]? = some (.live cs)) : RetM P f (.c (.ptr id off) :: rest) σ fun r' σ' => ∃ cs', T r' cs' ∧ σ' = σ.set id (.live cs') := by
  refine ⟨⟨fn, hf, hname, by rw [hb]; rfl⟩, fun G bl w vs hs hvs => ?_⟩
  refine calls_of_wp hf hb ?_
  have hidl : id < σ.length := there_lt ⟨_, hid, rfl⟩
  obtain ⟨arr, e, hheap, hcells, hgn⟩ := hs.live id cs hid
  let E : Env := { w0 := w, G0 := G, bl0 := fun _ => bl id, n0 := 1 }
  have hlen : vs.size = rest.length + 1 := by have := hvs.length; simpa using this
  have hthere : ∀ j, There [Box.live cs] j → j = 0 := by
    rintro j ⟨b, hb, _⟩
    cases j with
    | zero => rfl
    | succ j => simp at hb
  have hth0 : There [Box.live cs] 0 := ⟨_, rfl, rfl⟩
  obtain ⟨v0, vt, hvl, hv0, hvt⟩ : ∃ v0 vt, vs.toList = v0 :: vt ∧ RepE G bl (There σ) v0 (.c (.ptr id off)) ∧ All2 (RepE G bl (There σ)) vt rest := by
    generalize vs.toList = l at hvs
    cases hvs with
    | cons h1 h2 => exact ⟨_, _, rfl, h1, h2⟩
  have rel : Rel E { tmps := vs ++ Array.replicate (fn.ntmps - vs.size) undef, defers := [] } w { slots := (.e (.c (.ptr 0 off))) :: (rest.map .e ++ List.replicate (fn.ntmps - (rest.length + 1)) (.t [])), st := [.live cs] } G (fun _ => bl id) := by
    refine ⟨⟨?_, rfl, ⟨hs.agree, fun j ds h => ?_, fun j ds h => ?_, fun j j' ds ds' h h' _ => ?_⟩⟩, ⟨rfl, rfl, rfl, Nat.le_refl _, fun k _ _ => rfl, GLe.refl G, fun b o u h => .inl h, fun _ _ => rfl, fun j ds hj h => ?_, Nat.le_refl _⟩⟩
    · simp only [Array.toList_append, Array.toList_replicate, hlen, hvl, List.cons_append]
      refine .cons ?_ (All2.append (All2.map_right ?_) (All2.replicate _ undef_rep))
      · obtain ⟨_, e2⟩ := hv0
        exact ⟨hth0, e2⟩
      · exact hvt.im_of hrest
    · cases j with
      | zero =>
        simp at h; subst h
        exact ⟨arr, e, hheap, (hcells.irep_of_im hcs).mono fun _ _ => RepC.of_irep, hgn⟩
      | succ j => simp at h
    · cases j with
      | zero => simp at h
      | succ j => simp at h
    · have h1 := hthere j ⟨_, h, rfl⟩
      have h2 := hthere j' ⟨_, h', rfl⟩
      rw [h1, h2]
    · have h1 := hthere j ⟨_, h, rfl⟩
      have hj' : 1 ≤ j := hj
      omega
  refine wp_mono (h E _ w G (fun _ => bl id) (fun q => by rw [hfz] at q; cases q) rel) fun e' a' w' hp => ?_
  obtain ⟨s', G', bl', ⟨he, l, hl, him, cs', hcs', hT, τ, hτ⟩, rel'⟩ := hp
  obtain ⟨us, g1, g2⟩ := run_results rel' hl
  have g3 := run_results' g1
  have hx := rel'.ext
  have hb0 : bl' 0 = bl id := hx.same 0 (by show 0 < 1; omega)
  have hlive := rel'.rel.st.live 0 cs' (by rw [hτ]; rfl)
  obtain ⟨arr', e2, hheap', hcells', hgn'⟩ := hlive
  rw [hb0] at hheap' hgn'
  have gnone : ∀ b, b < w.heap.size → (∀ o, G b o = none) → ∀ o, G' b o = none := fun b hb hg o => by
    cases hgo : G' b o with
    | none => rfl
    | some u =>
      rcases hx.gnew b o u hgo with q | q
      · have q' : G b o = some u := q
        rw [hg o] at q'; simp at q'
      · exact absurd hb (Nat.not_lt.2 q)
  have hrel : RelS G' bl w' (σ.set id (.live cs')) := by
    refine ⟨rel'.rel.st.agree, fun j ds hj => ?_, fun j ds hj => ?_, fun j j' ds ds' hj hj' hbb => ?_⟩
    · by_cases hji : id = j
      · subst hji
        rw [List.getElem?_set_self hidl, Option.some.injEq, Box.live.injEq] at hj
        subst hj
        exact ⟨arr', e2, hheap', (hcells'.irep_of_im hcs').mono fun _ _ => RepC.of_irep, hgn'⟩
      · rw [List.getElem?_set_ne hji] at hj
        obtain ⟨arr1, e1, k1, k2, k3⟩ := hs.live j ds hj
        have hlt := heap_lt k1
        refine ⟨arr1, e1, ?_, ?_, gnone _ hlt k3⟩
        · rw [hx.block (bl j) hlt fun i hi hh => hji (hs.inj id j cs ds hid hj hh)]; exact k1
        · exact k2.mono fun u p => RepC.mono hx.gle (fun _ _ => rfl) fun i hi => there_set hidl hi
    · by_cases hji : id = j
      · subst hji
        rw [List.getElem?_set_self hidl, Option.some.injEq] at hj
        cases hj
      · rw [List.getElem?_set_ne hji] at hj
        obtain ⟨us1, k1, k2⟩ := hs.frz j ds hj
        exact ⟨us1, fun i hi => hx.gle _ _ _ (k1 i hi), fun i hi => IRep.mono hx.gle (k2 i hi)⟩
    · have back : ∀ {i : Nat} {xs : List PC}, (σ.set id (.live cs'))[i]? = some (.live xs) → ∃ ys, σ[i]? = some (.live ys) := fun {i xs} hi => by
        by_cases hii : id = i
        · subst hii; exact ⟨cs, hid⟩
        · rw [List.getElem?_set_ne hii] at hi; exact ⟨xs, hi⟩
      obtain ⟨y1, q1⟩ := back hj
      obtain ⟨y2, q2⟩ := back hj'
      exact hs.inj j j' y1 y2 q1 q2 hbb
  have fin : ∃ v, (results fn a'.tmps).run P w' = .ok v w' ∧ ∃ v' r' σ' G'' bl'', Ending.returned v = .returned v' ∧ (∃ ds, T r' ds ∧ σ' = σ.set id (.live ds)) ∧ RepV G'' bl'' (There σ') v' r' ∧ RelS G'' bl'' w' σ' ∧ (∀ j, There σ j → There σ' j) ∧ σ.length ≤ σ'.length ∧
      (∀ j, j < σ.length → bl'' j = bl j) ∧ (∀ j ds, σ.length ≤ j → σ'[j]? = some (.live ds) → w.heap.size ≤ bl'' j) ∧ (∀ j ds, σ'[j]? = some (.live ds) → j < σ.length → ∃ ds', σ[j]? = some (.live ds')) ∧
      GLe G G'' ∧ (∀ b o u, G'' b o = some u → G b o = some u ∨ w.heap.size ≤ b) ∧ w'.os = w.os ∧ w'.tape = w.tape ∧ w'.output = w.output ∧ w.heap.size ≤ w'.heap.size ∧
      ∀ k, k < w.heap.size → (∀ j ds, σ[j]? = some (.live ds) → bl j ≠ k) → w'.heap[k]? = w.heap[k]? := by
    refine ⟨_, g3, packV us, pack (l.map PE.norm), _, G', bl, rfl, ⟨_, hT, rfl⟩, ?_, hrel, fun j hj => there_set hidl hj, by simp, fun _ _ => rfl, fun j ds hj h2 => ?_, fun j ds hj _ => ?_, hx.gle, hx.gnew, hx.os, hx.tape, hx.output, hx.size, fun k hk hh => ?_⟩
    · exact pack_rep (All2.normE (g2.of_im him))
    · have := there_lt (σ := σ.set id (.live cs')) ⟨_, h2, rfl⟩
      simp at this; omega
    · by_cases hji : id = j
      · subst hji; exact ⟨cs, hid⟩
      · rw [List.getElem?_set_ne hji] at hj; exact ⟨ds, hj⟩
    · exact hx.block k hk fun i hi => hh id cs hid
  rcases he with rfl | rfl
  · exact ⟨rel'.rel.defers, fin⟩
  · exact ⟨rel'.rel.defers, fin⟩
theorem retW_of_M {P : Program} {f : FuncId} {args : List PE} {id : Nat} {cs cs' : List PC} {r : PV} (h : ∀ σ : List Box, σ[id]? = some (.live cs) → RetM P f args σ fun r' σ' => ∃ ds, (r' = r ∧ ds = cs') ∧ σ' = σ.set id (.live ds)) : RetW P f args id cs r cs' := fun σ hs => by
  have e : (fun (r' : PV) (σ' : List Box) => ∃ ds, (r' = r ∧ ds = cs') ∧ σ' = σ.set id (.live ds)) = fun r' σ' => r' = r ∧ σ' = σ.set id (.live cs') := by
    funext r' σ'
    refine propext ⟨?_, ?_⟩
    · rintro ⟨_, ⟨rfl, rfl⟩, rfl⟩; exact ⟨rfl, rfl⟩
    · rintro ⟨rfl, rfl⟩; exact ⟨_, ⟨rfl, rfl⟩, rfl⟩
  rw [← e]; exact h σ hs
end
end Go.PL

set_option linter.unusedSimpArgs false
set_option linter.unusedVariables false
set_option maxRecDepth 20000
namespace Go.Proofs.YtbadkjfjdkbgfaaGreat
open Go Go.PL Go.RL
set_option maxHeartbeats 4000000 in
theorem w_known_with (k b : Bool) (i : Iv) (id : Nat) (σ : List Box) (hid : σ[id]? = some (.live ([.bool k]))) :
    RetM Tryz.prog 163 (.c (.ptr id 0) :: [.a [.int .i64 i.lo, .int .i64 i.hi], .c (.bool b)]) σ fun r' σ' => ∃ cs', (fun r' ds => r' = .e (.a [.int .i64 i.lo, .int .i64 i.hi]) ∧ ds = [.bool (k && b)]) r' cs' ∧ σ' = σ.set id (.live cs') := by
  refine retW_of_bodyP (md := { fz := false }) Tryz.func163 (by kernel_rfl) rfl rfl rfl (rfl) (fun r' ds => r' = .e (.a [.int .i64 i.lo, .int .i64 i.hi]) ∧ ds = [.bool (k && b)]) ?_ id σ hid
  simp only [Tryz.f163, List.map_cons, List.map_nil, List.length_cons, List.length_nil, Nat.zero_add, Nat.reduceAdd, Nat.reduceSub, List.reduceReplicate, List.cons_append, List.nil_append]
  refine pwx_sr 2 [] (by rfl) (fun K1 hK1 => ?_)
  simp (disch := omega) only [go_sem]
  refine hK1 _ ?_
  clear hK1 K1
  rcases k with _ | _
  · refine pwx_sr 0 [some 7, some 8, some 9, some 10, some 11, some 12, some 13, some 14, some 15, some 16, none] (by rfl) (fun K2 hK2 => ?_)
    simp (disch := omega) only [go_sem]
    refine hK2 _ ?_
    clear hK2 K2
    refine pwx_sr 0 [] (by rfl) (fun K3 hK3 => ?_)
    simp (disch := omega) only [go_sem]
    refine hK3 _ ?_
    clear hK3 K3
    refine pwp_ret ?_
    refine ⟨Or.inr rfl, _, rfl, rfl, _, rfl, ?_, _, rfl⟩
    exact ⟨by kernel_rfl, rfl⟩
  · refine pwx_sr 0 [some 7, some 8, some 9, some 10, some 11, some 12, some 13, some 14, some 15, some 16, none] (by rfl) (fun K4 hK4 => ?_)
    simp (disch := omega) only [go_sem]
    refine hK4 _ ?_
    clear hK4 K4
    refine pwx_sr 0 [] (by rfl) (fun K5 hK5 => ?_)
    simp (disch := omega) only [go_sem]
    refine hK5 _ ?_
    clear hK5 K5
    refine pwp_ret ?_
    refine ⟨Or.inr rfl, _, rfl, rfl, _, rfl, ?_, _, rfl⟩
    exact ⟨by kernel_rfl, rfl⟩

end Go.Proofs.YtbadkjfjdkbgfaaGreat

namespace Go.PL
open Go.RL
/-- quick: what is known behind each step. -/
def qk1 (M N : Rat) : Bool := (((frF M).ok && (sqF (frF M)).ok) && (frF N).ok) && (sqF (frF N)).ok
def qB (B M : Rat) : Iv := muF (frF B) (sqF (frF M))
def qC (C N : Rat) : Iv := muF (frF C) (sqF (frF N))
def qMN (M N : Rat) : Iv := muF (sqF (frF M)) (sqF (frF N))
def qD (D M N : Rat) : Iv := muF (frF D) (qMN M N)
def qk2 (B C D M N : Rat) : Bool := ((((((frF B).ok && (qB B M).ok) && (frF C).ok) && (qC C N).ok) && (frF D).ok) && (qMN M N).ok) && (qD D M N).ok
def qAB (A B M : Rat) : Iv := adF (frF A) (qB B M)
def qCD (C D M N : Rat) : Iv := adF (qC C N) (qD D M N)
def qS (A B C D M N : Rat) : Iv := adF (qAB A B M) (qCD C D M N)
def qk3 (A B C D M N : Rat) : Bool := (((frF A).ok && (qAB A B M).ok) && (qCD C D M N).ok) && (qS A B C D M N).ok
/-- quick -/
def quF (A B C D M N : Rat) : Int × Bool := if qk1 M N = true ∧ qk2 B C D M N = true ∧ qk3 A B C D M N = true then siF (qS A B C D M N) else (0, false)
variable {A B C D M N : Rat}
theorem quF_1 (h : qk1 M N = false) : quF A B C D M N = (0, false) := if_neg (by rw [h]; simp)
theorem quF_2 (h : qk2 B C D M N = false) : quF A B C D M N = (0, false) := if_neg (by rw [h]; simp)
theorem quF_3 (h : qk3 A B C D M N = false) : quF A B C D M N = (0, false) := if_neg (by rw [h]; simp)
theorem quF_4 (h1 : qk1 M N = true) (h2 : qk2 B C D M N = true) (h3 : qk3 A B C D M N = true) : quF A B C D M N = siF (qS A B C D M N) := if_pos ⟨h1, h2, h3⟩
/-- quick's answers are right. -/
theorem quF_ok (hM : 0 ≤ M) (hN : 0 ≤ N) (h : (quF A B C D M N).2 = true) : (quF A B C D M N).1 = quad A B C D M N := by
  unfold quF at h ⊢
  split
  · rename_i c
    rw [if_pos c] at h
    obtain ⟨c1, c2, c3⟩ := c
    simp only [qk1, qk2, qk3, Bool.and_eq_true] at c1 c2 c3
    obtain ⟨⟨⟨m1, m2⟩, n1⟩, n2⟩ := c1
    obtain ⟨⟨⟨⟨⟨⟨b1, b2⟩, e1⟩, e2⟩, d1⟩, d2⟩, d3⟩ := c2
    obtain ⟨⟨⟨a1, a2⟩, a3⟩, a4⟩ := c3
    rw [quad_eq hM hN]
    have im := sqF_ok hM m2 (frF_ok m1)
    have i_n := sqF_ok hN n2 (frF_ok n1)
    have hB := muF_ok b2 (frF_ok b1) im
    have hC := muF_ok e2 (frF_ok e1) i_n
    have hmn := muF_ok d2 im i_n
    have hD := muF_ok d3 (frF_ok d1) hmn
    have hS := adF_ok a4 (adF_ok a2 (frF_ok a1) hB) (adF_ok a3 hC hD)
    refine siF_ok h (inI_eqv (eqv_of_eq ?_) hS)
    apply Re.ext; intro n
    show A + B * (rt M).s n + (C * (rt N).s n + D * ((rt M).s n * (rt N).s n)) = A + B * (rt M).s n + (C + D * (rt M).s n) * (rt N).s n
    grind
  · rename_i c; rw [if_neg c] at h; cases h
/-- What is known behind the second step, as the program computes it. -/
def qK2 (B C D M N : Rat) : Bool := ((((((qk1 M N && (frF B).ok) && (qB B M).ok) && (frF C).ok) && (qC C N).ok) && (frF D).ok) && (qMN M N).ok) && (qD D M N).ok
def qK3 (A B C D M N : Rat) : Bool := (((qK2 B C D M N && (frF A).ok) && (qAB A B M).ok) && (qCD C D M N).ok) && (qS A B C D M N).ok
theorem qK2_eq (h : qk1 M N = true) : qK2 B C D M N = qk2 B C D M N := by simp only [qK2, h, Bool.true_and, qk2]
theorem qK3_eq (h : qK2 B C D M N = true) : qK3 A B C D M N = qk3 A B C D M N := by simp only [qK3, h, Bool.true_and, qk3]
theorem quG_1 (h : (!qk1 M N) = true) : quF A B C D M N = (0, false) := quF_1 (not_t h)
theorem quG_2 (h1 : (!qk1 M N) = false) (h : (!qK2 B C D M N) = true) : quF A B C D M N = (0, false) := quF_2 (by rw [← qK2_eq (not_f h1)]; exact not_t h)
theorem quG_3 (h2 : (!qK2 B C D M N) = false) (h : (!qK3 A B C D M N) = true) : quF A B C D M N = (0, false) := quF_3 (by rw [← qK3_eq (not_f h2)]; exact not_t h)
theorem quG_4 (h1 : (!qk1 M N) = false) (h2 : (!qK2 B C D M N) = false) (h3 : (!qK3 A B C D M N) = false) : quF A B C D M N = siF (qS A B C D M N) :=
  quF_4 (not_f h1) (by rw [← qK2_eq (not_f h1)]; exact not_f h2) (by rw [← qK3_eq (not_f h2)]; exact not_f h3)
end Go.PL

set_option linter.unusedSimpArgs false
set_option linter.unusedVariables false
set_option maxRecDepth 20000
namespace Go.Proofs.YtbadkjfjdkbgfaaGreat
open Go Go.PL Go.RL
set_option maxHeartbeats 4000000 in
theorem c_radical_quick (A B C D M N : Rat) {kA kB kC kD kM kN : Nat} [SzR A kA] [SzR B kB] [SzR C kC] [SzR D kD] [SzR M kM] [SzR N kN] (hk : kA + kB + kC + kD + kM + kN ≤ 20000) :
    Ret Tryz.prog 136 [.a (ratC A ++ (ratC B ++ (ratC C ++ (ratC D ++ (ratC M ++ ratC N)))))] (.t [.c (.int .i64 (quF A B C D M N).1), .c (.bool (quF A B C D M N).2)]) := by
  refine ret_of_body (md := { wf := fun f => f == 163 }) Tryz.func136 (by kernel_rfl) rfl ?_
  simp only [Tryz.f136, List.map_cons, List.map_nil, List.length_cons, List.length_nil, Nat.zero_add, Nat.reduceAdd, Nat.reduceSub, List.reduceReplicate, List.cons_append, List.nil_append]
  refine pwx_sr 1 [] (by rfl) (fun K1 hK1 => ?_)
  simp (disch := omega) only [go_sem]
  refine hK1 _ ?_
  clear hK1 K1
  refine pwx_sr 1 [] (by rfl) (fun K2 hK2 => ?_)
  simp (disch := omega) only [go_sem]
  refine hK2 _ ?_
  clear hK2 K2
  refine pwx_sr 1 [] (by rfl) (fun K3 hK3 => ?_)
  refine rgnX_take 5 (fun K4 hK4 => ?_)
  simp (disch := omega) only [go_sem]
  refine ⟨_, c_filter_FromRat _ (by omega), ?_⟩
  refine hK4 _ ?_
  refine rgnX_take 3 (fun K5 hK5 => ?_)
  simp (disch := omega) only [go_sem]
  refine ⟨_, _, _, _, _, _, ⟨rfl, rfl⟩, rfl, retW_of_M (fun σ hs => w_known_with _ _ _ _ σ hs), ?_⟩
  refine hK5 _ ?_
  refine rgnX_take 1 (fun K6 hK6 => ?_)
  simp (disch := omega) only [go_sem]
  refine ⟨_, c_filter_Sqrt _ (frF_bd _), ?_⟩
  refine hK6 _ ?_
  refine rgnX_take 3 (fun K7 hK7 => ?_)
  simp (disch := omega) only [go_sem]
  refine ⟨_, _, _, _, _, _, ⟨rfl, rfl⟩, rfl, retW_of_M (fun σ hs => w_known_with _ _ _ _ σ hs), ?_⟩
  refine hK7 _ ?_
  simp (disch := omega) only [go_sem]
  refine hK3 _ ?_
  clear hK7 K7 hK6 K6 hK5 K5 hK4 K4 hK3 K3
  refine pwx_sr 1 [] (by rfl) (fun K8 hK8 => ?_)
  refine rgnX_take 5 (fun K9 hK9 => ?_)
  simp (disch := omega) only [go_sem]
  refine ⟨_, c_filter_FromRat _ (by omega), ?_⟩
  refine hK9 _ ?_
  refine rgnX_take 3 (fun K10 hK10 => ?_)
  simp (disch := omega) only [go_sem]
  refine ⟨_, _, _, _, _, _, ⟨rfl, rfl⟩, rfl, retW_of_M (fun σ hs => w_known_with _ _ _ _ σ hs), ?_⟩
  refine hK10 _ ?_
  refine rgnX_take 1 (fun K11 hK11 => ?_)
  simp (disch := omega) only [go_sem]
  refine ⟨_, c_filter_Sqrt _ (frF_bd _), ?_⟩
  refine hK11 _ ?_
  refine rgnX_take 3 (fun K12 hK12 => ?_)
  simp (disch := omega) only [go_sem]
  refine ⟨_, _, _, _, _, _, ⟨rfl, rfl⟩, rfl, retW_of_M (fun σ hs => w_known_with _ _ _ _ σ hs), ?_⟩
  refine hK12 _ ?_
  simp (disch := omega) only [go_sem]
  refine hK8 _ ?_
  clear hK12 K12 hK11 K11 hK10 K10 hK9 K9 hK8 K8
  refine pwp_seq ?_
  refine pwx_sr 0 [] (by rfl) (fun K13 hK13 => ?_)
  simp (disch := omega) only [go_sem]
  refine hK13 _ ?_
  clear hK13 K13
  refine pwp_cond (b := _) (by rfl) (fun hb0 => ?_) (fun hb0 => ?_)
  · first | replace hb0 := of_decide_eq_true hb0 | replace hb0 := of_decide_eq_false hb0 | skip
    refine pwx_sr 0 [] (by rfl) (fun K14 hK14 => ?_)
    simp (disch := omega) only [go_sem]
    refine hK14 _ ?_
    clear hK14 K14
    refine pwp_ret ?_
    refine r_then ?_
    refine ⟨Or.inr rfl, ?_⟩
    simp (disch := omega) only [go_sem]
    rw [quG_1 hb0]; exact ⟨rfl, rfl⟩
  · first | replace hb0 := of_decide_eq_true hb0 | replace hb0 := of_decide_eq_false hb0 | skip
    refine pwp_skip ?_
    refine n_then ?_
    refine pwx_sdH Tryz.mixed 1 [] (by rfl) [] [(1, 0), (4, 1), (5, 2), (7, 4), (42, 1), (43, 1), (44, 0)] (by kernel_rfl) (by kernel_rfl) (by simp) (by simp [HomeAt, St.pad]) (fun K15 hK15 => ?_)
    refine rgnX_take 5 (fun K16 hK16 => ?_)
    simp (disch := omega) only [go_sem]
    refine ⟨_, c_filter_FromRat _ (by omega), ?_⟩
    refine hK16 _ ?_
    refine rgnX_take 3 (fun K17 hK17 => ?_)
    simp (disch := omega) only [go_sem]
    refine ⟨_, _, _, _, _, _, ⟨rfl, rfl⟩, rfl, retW_of_M (fun σ hs => w_known_with _ _ _ _ σ hs), ?_⟩
    refine hK17 _ ?_
    refine rgnX_take 2 (fun K18 hK18 => ?_)
    simp (disch := omega) only [go_sem]
    refine ⟨_, c_filter_Mul _ _ (by first | exact frF_bd _ | exact sqF_bd (frF_bd _) | exact muF_bd _ _) (by first | exact frF_bd _ | exact sqF_bd (frF_bd _) | exact muF_bd _ _), ?_⟩
    refine hK18 _ ?_
    refine rgnX_take 3 (fun K19 hK19 => ?_)
    simp (disch := omega) only [go_sem]
    refine ⟨_, _, _, _, _, _, ⟨rfl, rfl⟩, rfl, retW_of_M (fun σ hs => w_known_with _ _ _ _ σ hs), ?_⟩
    refine hK19 _ ?_
    simp (disch := omega) only [go_sem]
    refine hK15 _ ?_
    clear hK19 K19 hK18 K18 hK17 K17 hK16 K16 hK15 K15
    refine pwx_sdH Tryz.mixed 1 [] (by rfl) [] [(1, 0), (4, 1), (6, 3), (8, 5), (55, 1), (56, 1), (57, 0)] (by kernel_rfl) (by kernel_rfl) (by simp) (by simp [HomeAt, St.pad]) (fun K20 hK20 => ?_)
    refine rgnX_take 5 (fun K21 hK21 => ?_)
    simp (disch := omega) only [go_sem]
    refine ⟨_, c_filter_FromRat _ (by omega), ?_⟩
    refine hK21 _ ?_
    refine rgnX_take 3 (fun K22 hK22 => ?_)
    simp (disch := omega) only [go_sem]
    refine ⟨_, _, _, _, _, _, ⟨rfl, rfl⟩, rfl, retW_of_M (fun σ hs => w_known_with _ _ _ _ σ hs), ?_⟩
    refine hK22 _ ?_
    refine rgnX_take 2 (fun K23 hK23 => ?_)
    simp (disch := omega) only [go_sem]
    refine ⟨_, c_filter_Mul _ _ (by first | exact frF_bd _ | exact sqF_bd (frF_bd _) | exact muF_bd _ _) (by first | exact frF_bd _ | exact sqF_bd (frF_bd _) | exact muF_bd _ _), ?_⟩
    refine hK23 _ ?_
    refine rgnX_take 3 (fun K24 hK24 => ?_)
    simp (disch := omega) only [go_sem]
    refine ⟨_, _, _, _, _, _, ⟨rfl, rfl⟩, rfl, retW_of_M (fun σ hs => w_known_with _ _ _ _ σ hs), ?_⟩
    refine hK24 _ ?_
    simp (disch := omega) only [go_sem]
    refine hK20 _ ?_
    clear hK24 K24 hK23 K23 hK22 K22 hK21 K21 hK20 K20
    refine pwx_sdH Tryz.mixed 1 [] (by rfl) [] [(1, 0), (4, 1), (5, 2), (6, 3), (9, 6), (68, 1), (69, 1), (70, 0), (76, 1)] (by kernel_rfl) (by kernel_rfl) (by simp) (by simp [HomeAt, St.pad]) (fun K25 hK25 => ?_)
    refine rgnX_take 5 (fun K26 hK26 => ?_)
    simp (disch := omega) only [go_sem]
    refine ⟨_, c_filter_FromRat _ (by omega), ?_⟩
    refine hK26 _ ?_
    refine rgnX_take 3 (fun K27 hK27 => ?_)
    simp (disch := omega) only [go_sem]
    refine ⟨_, _, _, _, _, _, ⟨rfl, rfl⟩, rfl, retW_of_M (fun σ hs => w_known_with _ _ _ _ σ hs), ?_⟩
    refine hK27 _ ?_
    refine rgnX_take 4 (fun K28 hK28 => ?_)
    simp (disch := omega) only [go_sem]
    refine ⟨_, c_filter_Mul _ _ (by first | exact frF_bd _ | exact sqF_bd (frF_bd _) | exact muF_bd _ _) (by first | exact frF_bd _ | exact sqF_bd (frF_bd _) | exact muF_bd _ _), ?_⟩
    refine hK28 _ ?_
    refine rgnX_take 3 (fun K29 hK29 => ?_)
    simp (disch := omega) only [go_sem]
    refine ⟨_, _, _, _, _, _, ⟨rfl, rfl⟩, rfl, retW_of_M (fun σ hs => w_known_with _ _ _ _ σ hs), ?_⟩
    refine hK29 _ ?_
    refine rgnX_take 1 (fun K30 hK30 => ?_)
    simp (disch := omega) only [go_sem]
    refine ⟨_, c_filter_Mul _ _ (by first | exact frF_bd _ | exact sqF_bd (frF_bd _) | exact muF_bd _ _) (by first | exact frF_bd _ | exact sqF_bd (frF_bd _) | exact muF_bd _ _), ?_⟩
    refine hK30 _ ?_
    refine rgnX_take 3 (fun K31 hK31 => ?_)
    simp (disch := omega) only [go_sem]
    refine ⟨_, _, _, _, _, _, ⟨rfl, rfl⟩, rfl, retW_of_M (fun σ hs => w_known_with _ _ _ _ σ hs), ?_⟩
    refine hK31 _ ?_
    simp (disch := omega) only [go_sem]
    refine hK25 _ ?_
    clear hK31 K31 hK30 K30 hK29 K29 hK28 K28 hK27 K27 hK26 K26 hK25 K25
    refine pwp_seq ?_
    refine pwx_sr 0 [] (by rfl) (fun K32 hK32 => ?_)
    simp (disch := omega) only [go_sem]
    refine hK32 _ ?_
    clear hK32 K32
    refine pwp_cond (b := _) (by rfl) (fun hb1 => ?_) (fun hb1 => ?_)
    · first | replace hb1 := of_decide_eq_true hb1 | replace hb1 := of_decide_eq_false hb1 | skip
      refine pwx_sr 0 [] (by rfl) (fun K33 hK33 => ?_)
      simp (disch := omega) only [go_sem]
      refine hK33 _ ?_
      clear hK33 K33
      refine pwp_ret ?_
      refine r_then ?_
      refine ⟨Or.inr rfl, ?_⟩
      simp (disch := omega) only [go_sem]
      rw [quG_2 hb0 hb1]; exact ⟨rfl, rfl⟩
    · first | replace hb1 := of_decide_eq_true hb1 | replace hb1 := of_decide_eq_false hb1 | skip
      refine pwp_skip ?_
      refine n_then ?_
      refine pwx_sdH Tryz.mixed 1 [] (by rfl) [] [(1, 0), (4, 1), (7, 4), (8, 5), (9, 6), (10, 7), (92, 1), (93, 1), (94, 1), (95, 0), (106, 1)] (by kernel_rfl) (by kernel_rfl) (by simp) (by simp [HomeAt, St.pad]) (fun K34 hK34 => ?_)
      refine rgnX_take 6 (fun K35 hK35 => ?_)
      simp (disch := omega) only [go_sem]
      refine ⟨_, c_filter_FromRat _ (by omega), ?_⟩
      refine hK35 _ ?_
      refine rgnX_take 3 (fun K36 hK36 => ?_)
      simp (disch := omega) only [go_sem]
      refine ⟨_, _, _, _, _, _, ⟨rfl, rfl⟩, rfl, retW_of_M (fun σ hs => w_known_with _ _ _ _ σ hs), ?_⟩
      refine hK36 _ ?_
      refine rgnX_take 2 (fun K37 hK37 => ?_)
      simp (disch := omega) only [go_sem]
      refine ⟨_, c_filter_Add _ _ (by first | exact frF_bd _ | exact muF_bd _ _ | exact adF_bd (frF_bd _) (muF_bd _ _)) (by first | exact frF_bd _ | exact muF_bd _ _ | exact adF_bd (muF_bd _ _) (muF_bd _ _)), ?_⟩
      refine hK37 _ ?_
      refine rgnX_take 3 (fun K38 hK38 => ?_)
      simp (disch := omega) only [go_sem]
      refine ⟨_, _, _, _, _, _, ⟨rfl, rfl⟩, rfl, retW_of_M (fun σ hs => w_known_with _ _ _ _ σ hs), ?_⟩
      refine hK38 _ ?_
      refine rgnX_take 4 (fun K39 hK39 => ?_)
      simp (disch := omega) only [go_sem]
      refine ⟨_, c_filter_Add _ _ (by first | exact frF_bd _ | exact muF_bd _ _ | exact adF_bd (frF_bd _) (muF_bd _ _)) (by first | exact frF_bd _ | exact muF_bd _ _ | exact adF_bd (muF_bd _ _) (muF_bd _ _)), ?_⟩
      refine hK39 _ ?_
      refine rgnX_take 3 (fun K40 hK40 => ?_)
      simp (disch := omega) only [go_sem]
      refine ⟨_, _, _, _, _, _, ⟨rfl, rfl⟩, rfl, retW_of_M (fun σ hs => w_known_with _ _ _ _ σ hs), ?_⟩
      refine hK40 _ ?_
      refine rgnX_take 1 (fun K41 hK41 => ?_)
      simp (disch := omega) only [go_sem]
      refine ⟨_, c_filter_Add _ _ (by first | exact frF_bd _ | exact muF_bd _ _ | exact adF_bd (frF_bd _) (muF_bd _ _)) (by first | exact frF_bd _ | exact muF_bd _ _ | exact adF_bd (muF_bd _ _) (muF_bd _ _)), ?_⟩
      refine hK41 _ ?_
      refine rgnX_take 3 (fun K42 hK42 => ?_)
      simp (disch := omega) only [go_sem]
      refine ⟨_, _, _, _, _, _, ⟨rfl, rfl⟩, rfl, retW_of_M (fun σ hs => w_known_with _ _ _ _ σ hs), ?_⟩
      refine hK42 _ ?_
      simp (disch := omega) only [go_sem]
      refine hK34 _ ?_
      clear hK42 K42 hK41 K41 hK40 K40 hK39 K39 hK38 K38 hK37 K37 hK36 K36 hK35 K35 hK34 K34
      refine pwp_seq ?_
      refine pwx_sr 0 [] (by rfl) (fun K43 hK43 => ?_)
      simp (disch := omega) only [go_sem]
      refine hK43 _ ?_
      clear hK43 K43
      refine pwp_cond (b := _) (by rfl) (fun hb2 => ?_) (fun hb2 => ?_)
      · first | replace hb2 := of_decide_eq_true hb2 | replace hb2 := of_decide_eq_false hb2 | skip
        refine pwx_sr 0 [] (by rfl) (fun K44 hK44 => ?_)
        simp (disch := omega) only [go_sem]
        refine hK44 _ ?_
        clear hK44 K44
        refine pwp_ret ?_
        refine r_then ?_
        refine ⟨Or.inr rfl, ?_⟩
        simp (disch := omega) only [go_sem]
        rw [quG_3 (A := A) hb1 hb2]; exact ⟨rfl, rfl⟩
      · first | replace hb2 := of_decide_eq_true hb2 | replace hb2 := of_decide_eq_false hb2 | skip
        refine pwp_skip ?_
        refine n_then ?_
        refine pwx_sr 0 [] (by rfl) (fun K45 hK45 => ?_)
        refine rgnX_take 2 (fun K46 hK46 => ?_)
        simp (disch := omega) only [go_sem]
        refine ⟨_, c_filter_Sign _, ?_⟩
        refine hK46 _ ?_
        simp (disch := omega) only [go_sem]
        refine hK45 _ ?_
        clear hK46 K46 hK45 K45
        refine pwp_ret ?_
        refine ⟨Or.inr rfl, ?_⟩
        simp (disch := omega) only [go_sem]
        rw [quG_4 (A := A) hb0 hb1 hb2]; exact ⟨rfl, rfl⟩

end Go.Proofs.YtbadkjfjdkbgfaaGreat

namespace Go.PL
open Go.RL
theorem sgnQ_cases (q : Rat) : sgnQ q = 1 ∨ sgnQ q = -1 ∨ sgnQ q = 0 := by
  unfold sgnQ; repeat' split
  all_goals simp
theorem sgnQ_bd (q : Rat) : -1 ≤ sgnQ q ∧ sgnQ q ≤ 1 := by rcases sgnQ_cases q with h | h | h <;> omega
theorem mul_bd {x y : Int} (hx : -1 ≤ x ∧ x ≤ 1) (hy : -1 ≤ y ∧ y ≤ 1) : -1 ≤ x * y ∧ x * y ≤ 1 := by
  obtain ⟨a, b⟩ := hx; obtain ⟨c, d⟩ := hy
  have : x = -1 ∨ x = 0 ∨ x = 1 := by omega
  rcases this with rfl | rfl | rfl <;> omega
theorem cmpQ_bd (p q : Rat) : -1 ≤ cmpQ p q ∧ cmpQ p q ≤ 1 := sgnQ_bd _
variable {a b m : Rat}
theorem two_bd (a b m : Rat) : -1 ≤ two a b m ∧ two a b m ≤ 1 := by
  unfold two
  simp only
  have h1 := sgnQ_bd a
  have h2 := mul_bd (sgnQ_bd b) (sgnQ_bd m)
  have h3 := mul_bd (sgnQ_bd a) (cmpQ_bd (a * a) (b * b * m))
  split
  · exact h2
  · split
    · exact h1
    · exact h3
theorem two_1 (h : sgnQ b * sgnQ m = 0) : two a b m = sgnQ a := by
  unfold two; simp only [h]
  split
  · rename_i h'; exact h'.symm
  · simp
theorem two_2 (h : sgnQ a = sgnQ b * sgnQ m) : two a b m = sgnQ a := by
  unfold two; simp only [← h]
  split
  · rfl
  · simp
theorem two_3 (h : sgnQ a = 0) : two a b m = sgnQ b * sgnQ m := if_pos h
theorem two_4 (h : ¬ sgnQ b * sgnQ m = 0) (h1 : ¬ sgnQ a = sgnQ b * sgnQ m) (h2 : ¬ sgnQ a = 0) : two a b m = sgnQ a * cmpQ (a * a) (b * b * m) := by
  unfold two; rw [if_neg h2, if_neg (by rintro (h' | h') <;> contradiction)]
/-- apart -/
def apF (i j : Iv) : Int × Bool := if i.ok = false ∨ j.ok = false then (0, false) else if i.hi < j.lo then (-1, true) else if j.hi < i.lo then (1, true) else (0, false)
variable {i j : Iv}
theorem apF_1 (h : i.ok = false ∨ j.ok = false) : apF i j = (0, false) := if_pos h
theorem apF_2 (h : i.ok = true) (h' : j.ok = true) (h2 : i.hi < j.lo) : apF i j = (-1, true) := by unfold apF; rw [if_neg (by rw [h, h']; simp), if_pos h2]
theorem apF_3 (h : i.ok = true) (h' : j.ok = true) (h2 : ¬ i.hi < j.lo) (h3 : j.hi < i.lo) : apF i j = (1, true) := by unfold apF; rw [if_neg (by rw [h, h']; simp), if_neg h2, if_pos h3]
theorem apF_4 (h : i.ok = true) (h' : j.ok = true) (h2 : ¬ i.hi < j.lo) (h3 : ¬ j.hi < i.lo) : apF i j = (0, false) := by unfold apF; rw [if_neg (by rw [h, h']; simp), if_neg h2, if_neg h3]
theorem inI_sub {a b c d : Int} {x y : Re} (h : inI a b x) (h' : inI c d y) : inI (a + -d) (b + -c) (x - y) := inI_add h (inI_neg h')
theorem apF_ok {x y : Re} (hx : i.ok = true → inI i.lo i.hi x) (hy : j.ok = true → inI j.lo j.hi y) (h : (apF i j).2 = true) : (apF i j).1 = sgn (x - y) := by
  unfold apF at h ⊢
  split
  · rename_i c; rw [if_pos c] at h; cases h
  · rename_i c
    rw [if_neg c] at h
    simp only [not_or] at c
    have hs := inI_sub (hx (bfalse c.1)) (hy (bfalse c.2))
    split
    · exact (inI_negv hs (by omega)).symm
    · rename_i c2
      rw [if_neg c2] at h
      split
      · exact (inI_pos hs (by omega)).symm
      · rename_i c3; rw [if_neg c3] at h; cases h
/-- The order of two roots. -/
def cmpR (a b c a' b' c' : Rat) : Int := quad (a - a') b (-b') 0 c c'
variable {a b c a' b' c' : Rat}
theorem v4_sub : v4 (a - a') b (-b') 0 c c' = v2 a b c - v2 a' b' c' := by
  apply Re.ext; intro n
  show (a - a') + b * (rt c).s n + (-b' + 0 * (rt c).s n) * (rt c').s n = (a + b * (rt c).s n) + -(a' + b' * (rt c').s n)
  grind
theorem cmpR_eq (hc : 0 ≤ c) (hc' : 0 ≤ c') : cmpR a b c a' b' c' = sgn (v2 a b c - v2 a' b' c') := by
  unfold cmpR; rw [quad_eq hc hc', v4_sub]
theorem cmpR_0 (hc : 0 ≤ c) (hc' : 0 ≤ c') : cmpR a 0 c a' 0 c' = cmpQ a a' := by
  rw [cmpR_eq hc hc', v2_b0, v2_b0, ← Re.of_sub, sgn_of]; rfl
theorem cmpR_ap (hc : 0 ≤ c) (hc' : 0 ≤ c') (h : (apF (rooF a b c) (rooF a' b' c')).2 = true) : (apF (rooF a b c) (rooF a' b' c')).1 = cmpR a b c a' b' c' := by
  rw [cmpR_eq hc hc']
  exact apF_ok rooF_ok rooF_ok h
theorem cmpR_same (hc : 0 ≤ c) : cmpR a b c a' b' c = two (a - a') (b - b') c := by
  rw [cmpR_eq hc hc, two_eq hc]
  congr 1
  apply Re.ext; intro n
  show (a + b * (rt c).s n) + -(a' + b' * (rt c).s n) = (a - a') + (b - b') * (rt c).s n
  grind
theorem two_r1 (h : sgnQ a = 0) : two a b m = sgnQ b * sgnQ m := if_pos h
theorem two_r2 (h : sgnQ a = 0 ∨ sgnQ b * sgnQ m = 0 ∨ sgnQ a = sgnQ b * sgnQ m) (h' : ¬ sgnQ a = 0) : two a b m = sgnQ a := by
  rcases h with h | h | h
  · contradiction
  · exact two_1 h
  · exact two_2 h
variable {A B C D M N : Rat}
theorem quad_0 (h : M < 0 ∨ N < 0) : quad A B C D M N = 0 := if_pos h
theorem quad_q (h : ¬ M < 0) (h' : ¬ N < 0) (hq : (quF A B C D M N).2 = true) : (quF A B C D M N).1 = quad A B C D M N := quF_ok (Rat.not_lt.1 h) (Rat.not_lt.1 h') hq
theorem quad_1 (h : ¬ M < 0) (h' : ¬ N < 0) (h1 : two C D M * sgnQ N = 0) : quad A B C D M N = two A B M := by
  unfold quad
  rw [if_neg (by rintro (c | c) <;> contradiction)]
  simp only [h1]
  split
  · rename_i h'; exact h'.symm
  · simp
theorem quad_2 (h : ¬ M < 0) (h' : ¬ N < 0) (h1 : two A B M = two C D M * sgnQ N) : quad A B C D M N = two A B M := by
  unfold quad
  rw [if_neg (by rintro (c | c) <;> contradiction)]
  simp only [← h1]
  split
  · rfl
  · simp
theorem quad_3 (h : ¬ M < 0) (h' : ¬ N < 0) (h1 : two A B M = 0) : quad A B C D M N = two C D M * sgnQ N := by
  unfold quad
  rw [if_neg (by rintro (c | c) <;> contradiction), if_pos h1]
theorem quad_4 (h : ¬ M < 0) (h' : ¬ N < 0) (h1 : ¬ two C D M * sgnQ N = 0) (h2 : ¬ two A B M = two C D M * sgnQ N) (h3 : ¬ two A B M = 0) :
    quad A B C D M N = two A B M * two (A * A + M * (B * B) - N * (C * C + M * (D * D))) ((A * B - N * (C * D)) + (A * B - N * (C * D))) M := by
  unfold quad
  rw [if_neg (by rintro (c | c) <;> contradiction), if_neg h3, if_neg (by rintro (c | c) <;> contradiction), Rat.mul_comm M (B * B), Rat.mul_comm M (D * D)]
theorem quad_r2 (h : ¬ M < 0) (h' : ¬ N < 0) (h1 : two A B M = 0 ∨ two C D M * sgnQ N = 0 ∨ two A B M = two C D M * sgnQ N) (h2 : ¬ two A B M = 0) : quad A B C D M N = two A B M := by
  rcases h1 with c | c | c
  · contradiction
  · exact quad_1 h h' c
  · exact quad_2 h h' c
theorem quad_r4 (h : ¬ M < 0) (h' : ¬ N < 0) (h1 : ¬ two C D M * sgnQ N = 0) (h2 : ¬ two A B M = two C D M * sgnQ N) (h3 : ¬ two A B M = 0) :
    quad A B C D M N = two A B M * two (A * A + B * B * M - N * (C * C + D * D * M)) ((A * B - N * (C * D)) + (A * B - N * (C * D))) M := by
  unfold quad
  rw [if_neg (by rintro (c | c) <;> contradiction), if_neg h3, if_neg (by rintro (c | c) <;> contradiction)]
end Go.PL

set_option linter.unusedSimpArgs false
set_option linter.unusedVariables false
set_option maxRecDepth 20000
namespace Go.Proofs.YtbadkjfjdkbgfaaGreat
open Go Go.PL Go.RL
set_option maxHeartbeats 4000000 in
theorem c_radical_plain (a b m : Rat) {k l o : Nat} [SzR a k] [SzR b l] [SzR m o] (hk : k + l + o ≤ 40000) :
    Ret Tryz.prog 94 [.a (ratC a), .a (ratC b), .a (ratC m)] (.e (.c (.int .i64 (two a b m)))) := by
  refine ret_of_body (md := {}) Tryz.func94 (by kernel_rfl) rfl ?_
  simp only [Tryz.f94, List.map_cons, List.map_nil, List.length_cons, List.length_nil, Nat.zero_add, Nat.reduceAdd, Nat.reduceSub, List.reduceReplicate, List.cons_append, List.nil_append]
  have h1 := mul_bd (sgnQ_bd b) (sgnQ_bd m)
  have h2 := mul_bd (sgnQ_bd a) (cmpQ_bd (a * a) (b * b * m))
  refine pwx_sr 3 [] (by rfl) (fun K1 hK1 => ?_)
  simp (disch := omega) only [go_sem]
  refine hK1 _ ?_
  clear hK1 K1
  refine pwx_sd Tryz.mixed 0 [] (by rfl) [] (by kernel_rfl) (by simp) (fun K2 hK2 => ?_)
  refine rgnX_take 2 (fun K3 hK3 => ?_)
  simp (disch := omega) only [go_sem]
  refine ⟨_, c_rational_Sign _, ?_⟩
  refine hK3 _ ?_
  refine rgnX_take 2 (fun K4 hK4 => ?_)
  simp (disch := omega) only [go_sem]
  refine ⟨_, c_rational_Sign _, ?_⟩
  refine hK4 _ ?_
  refine rgnX_take 2 (fun K5 hK5 => ?_)
  simp (disch := omega) only [go_sem]
  refine ⟨_, c_rational_Sign _, ?_⟩
  refine hK5 _ ?_
  simp (disch := omega) only [go_sem]
  refine hK2 _ ?_
  clear hK5 K5 hK4 K4 hK3 K3 hK2 K2
  refine pwp_seq ?_
  refine pwp_block ?_
  by_cases h0 : sgnQ b * sgnQ m = 0
  · refine pwx_sr 0 [some 17, some 18, some 19, some 20, some 21, some 22, some 23, some 16] (by rfl) (fun K6 hK6 => ?_)
    simp (disch := omega) only [go_sem]
    refine hK6 _ ?_
    clear hK6 K6
    refine pwp_cond (b := true) (by rfl) (fun _ => ?_) (fun h => nomatch h)
    refine pwx_sr 0 [] (by rfl) (fun K7 hK7 => ?_)
    simp (disch := omega) only [go_sem]
    refine hK7 _ ?_
    clear hK7 K7
    refine pwp_ret ?_
    refine r_block ?_
    refine r_then ?_
    refine ⟨Or.inr rfl, ?_⟩
    simp (disch := omega) only [go_sem]
    rw [two_1 h0]
  · refine pwx_sr 0 [some 17, some 18, some 19, some 20, some 21, some 22, some 23, some 16] (by rfl) (fun K8 hK8 => ?_)
    simp (disch := omega) only [go_sem]
    refine hK8 _ ?_
    clear hK8 K8
    refine pwp_cond (b := _) (by rfl) (fun hb1 => ?_) (fun hb1 => ?_)
    · first | replace hb1 := of_decide_eq_true hb1 | replace hb1 := of_decide_eq_false hb1 | skip
      refine pwx_sr 0 [] (by rfl) (fun K9 hK9 => ?_)
      simp (disch := omega) only [go_sem]
      refine hK9 _ ?_
      clear hK9 K9
      refine pwp_ret ?_
      refine r_block ?_
      refine r_then ?_
      refine ⟨Or.inr rfl, ?_⟩
      simp (disch := omega) only [go_sem]
      rw [two_2 hb1]
    · first | replace hb1 := of_decide_eq_true hb1 | replace hb1 := of_decide_eq_false hb1 | skip
      refine pwx_sr 0 [] (by rfl) (fun K10 hK10 => ?_)
      simp (disch := omega) only [go_sem]
      refine hK10 _ ?_
      clear hK10 K10
      refine pwp_cond (b := _) (by rfl) (fun hb2 => ?_) (fun hb2 => ?_)
      · first | replace hb2 := of_decide_eq_true hb2 | replace hb2 := of_decide_eq_false hb2 | skip
        refine pwx_sr 0 [] (by rfl) (fun K11 hK11 => ?_)
        simp (disch := omega) only [go_sem]
        refine hK11 _ ?_
        clear hK11 K11
        refine pwp_ret ?_
        refine r_block ?_
        refine r_then ?_
        refine ⟨Or.inr rfl, ?_⟩
        simp (disch := omega) only [go_sem]
        rw [two_3 (by rw [sgnQ_eqz]; exact hb2)]
      · first | replace hb2 := of_decide_eq_true hb2 | replace hb2 := of_decide_eq_false hb2 | skip
        refine pwp_skip ?_
        refine n_block ?_
        refine n_then ?_
        refine pwx_sd Tryz.mixed 0 [] (by rfl) [] (by kernel_rfl) (by simp) (fun K12 hK12 => ?_)
        refine rgnX_take 4 (fun K13 hK13 => ?_)
        simp (disch := omega) only [go_sem]
        refine ⟨_, c_rational_Mul _ _ (by omega), ?_⟩
        refine hK13 _ ?_
        refine rgnX_take 3 (fun K14 hK14 => ?_)
        simp (disch := omega) only [go_sem]
        refine ⟨_, c_rational_Mul _ _ (by omega), ?_⟩
        refine hK14 _ ?_
        refine rgnX_take 2 (fun K15 hK15 => ?_)
        simp (disch := omega) only [go_sem]
        refine ⟨_, c_rational_Mul _ _ (by omega), ?_⟩
        refine hK15 _ ?_
        refine rgnX_take 1 (fun K16 hK16 => ?_)
        simp (disch := omega) only [go_sem]
        refine ⟨_, c_rational_Cmp _ _ (by omega), ?_⟩
        refine hK16 _ ?_
        simp (disch := omega) only [go_sem]
        refine hK12 _ ?_
        clear hK16 K16 hK15 K15 hK14 K14 hK13 K13 hK12 K12
        refine pwp_ret ?_
        refine ⟨Or.inr rfl, ?_⟩
        simp (disch := omega) only [go_sem]
        rw [two_4 h0 hb1 (by rw [sgnQ_eqz]; exact hb2)]
set_option maxHeartbeats 4000000 in
theorem c_radical_copied (a : Rat) {k : Nat} [SzR a k] (hk : k ≤ 40000) :
    Ret Tryz.prog 138 [.a (ratC a)] (.e (.a (ratC a))) := by
  refine ret_of_body (md := {}) Tryz.func138 (by kernel_rfl) rfl ?_
  simp only [Tryz.f138, List.map_cons, List.map_nil, List.length_cons, List.length_nil, Nat.zero_add, Nat.reduceAdd, Nat.reduceSub, List.reduceReplicate, List.cons_append, List.nil_append]
  refine pwx_sr 2 [] (by rfl) (fun K1 hK1 => ?_)
  simp (disch := omega) only [go_sem]
  refine hK1 _ ?_
  clear hK1 K1
  refine pwx_sr 0 [] (by rfl) (fun K2 hK2 => ?_)
  refine rgnX_take 2 (fun K3 hK3 => ?_)
  simp (disch := omega) only [go_sem]
  refine ⟨_, c_rational_Neg _ (by omega), ?_⟩
  refine hK3 _ ?_
  refine rgnX_take 1 (fun K4 hK4 => ?_)
  simp (disch := omega) only [go_sem]
  refine ⟨_, c_rational_Neg _ (by omega), ?_⟩
  refine hK4 _ ?_
  simp (disch := omega) only [go_sem]
  refine hK2 _ ?_
  clear hK4 K4 hK3 K3 hK2 K2
  refine pwp_ret ?_
  refine ⟨Or.inr rfl, ?_⟩
  simp (disch := omega) only [go_sem]
  all_goals rw [Rat.neg_neg]
set_option maxHeartbeats 4000000 in
theorem c_radical_add (a b : Rat) {k l : Nat} [SzR a k] [SzR b l] (hkl : k + l ≤ 150000) :
    Ret Tryz.prog 137 [.a (ratC a), .a (ratC b)] (.e (.a (ratC (a + b)))) := by
  refine ret_of_body (md := {}) Tryz.func137 (by kernel_rfl) rfl ?_
  simp only [Tryz.f137, List.map_cons, List.map_nil, List.length_cons, List.length_nil, Nat.zero_add, Nat.reduceAdd, Nat.reduceSub, List.reduceReplicate, List.cons_append, List.nil_append]
  refine pwx_sr 3 [] (by rfl) (fun K1 hK1 => ?_)
  simp (disch := omega) only [go_sem]
  refine hK1 _ ?_
  clear hK1 K1
  refine pwx_sr 0 [] (by rfl) (fun K2 hK2 => ?_)
  refine rgnX_take 3 (fun K3 hK3 => ?_)
  simp (disch := omega) only [go_sem]
  refine ⟨_, c_rational_Add _ _ (by omega), ?_⟩
  refine hK3 _ ?_
  simp (disch := omega) only [go_sem]
  refine hK2 _ ?_
  clear hK3 K3 hK2 K2
  refine pwp_ret ?_
  refine ⟨Or.inr rfl, ?_⟩
  simp (disch := omega) only [go_sem]
set_option maxHeartbeats 4000000 in
theorem c_radical_Sub (a b c a' b' c' : Rat) {k l m k' l' m' : Nat} [SzR a k] [SzR b l] [SzR c m] [SzR a' k'] [SzR b' l'] [SzR c' m'] (hk : k + l + m + k' + l' + m' ≤ 20000) :
    Ret Tryz.prog 96 [.a (ratC (a) ++ (ratC (b) ++ ratC (c))), .a (ratC (a') ++ (ratC (b') ++ ratC (c')))] (.e (.a (ratC (a - a') ++ (ratC b ++ (ratC (-b') ++ (ratC 0 ++ (ratC c ++ ratC c'))))))) := by
  refine ret_of_body (md := {}) Tryz.func96 (by kernel_rfl) rfl ?_
  simp only [Tryz.f96, List.map_cons, List.map_nil, List.length_cons, List.length_nil, Nat.zero_add, Nat.reduceAdd, Nat.reduceSub, List.reduceReplicate, List.cons_append, List.nil_append]
  refine pwx_sr 3 [] (by rfl) (fun K1 hK1 => ?_)
  simp (disch := omega) only [go_sem]
  refine hK1 _ ?_
  clear hK1 K1
  refine pwx_sd Tryz.mixed 0 [] (by rfl) [] (by kernel_rfl) (by simp) (fun K2 hK2 => ?_)
  refine rgnX_take 5 (fun K3 hK3 => ?_)
  simp (disch := omega) only [go_sem]
  refine ⟨_, c_rational_Sub _ _ (by omega), ?_⟩
  refine hK3 _ ?_
  refine rgnX_take 3 (fun K4 hK4 => ?_)
  simp (disch := omega) only [go_sem]
  refine ⟨_, c_radical_copied _ (by omega), ?_⟩
  refine hK4 _ ?_
  refine rgnX_take 3 (fun K5 hK5 => ?_)
  simp (disch := omega) only [go_sem]
  refine ⟨_, c_rational_Neg _ (by omega), ?_⟩
  refine hK5 _ ?_
  refine rgnX_take 1 (fun K6 hK6 => ?_)
  simp (disch := omega) only [go_sem]
  refine ⟨_, c_rational_FromInt64 _ (by omega) (by omega), ?_⟩
  refine hK6 _ ?_
  refine rgnX_take 3 (fun K7 hK7 => ?_)
  simp (disch := omega) only [go_sem]
  refine ⟨_, c_radical_copied _ (by omega), ?_⟩
  refine hK7 _ ?_
  refine rgnX_take 3 (fun K8 hK8 => ?_)
  simp (disch := omega) only [go_sem]
  refine ⟨_, c_radical_copied _ (by omega), ?_⟩
  refine hK8 _ ?_
  simp (disch := omega) only [go_sem]
  refine hK2 _ ?_
  clear hK8 K8 hK7 K7 hK6 K6 hK5 K5 hK4 K4 hK3 K3 hK2 K2
  refine pwp_ret ?_
  refine ⟨Or.inr rfl, ?_⟩
  simp (disch := omega) only [go_sem]
  all_goals rfl

end Go.Proofs.YtbadkjfjdkbgfaaGreat

set_option linter.unusedSimpArgs false
set_option linter.unusedVariables false
set_option maxRecDepth 20000
namespace Go.Proofs.YtbadkjfjdkbgfaaGreat
open Go Go.PL Go.RL
set_option maxHeartbeats 4000000 in
theorem c_radical_apart (a b c a' b' c' : Rat) {k l m k' l' m' : Nat} [SzR a k] [SzR b l] [SzR c m] [SzR a' k'] [SzR b' l'] [SzR c' m'] (hk : k + l + m + k' + l' + m' ≤ 20000) :
    Ret Tryz.prog 93 [.a (ratC (a) ++ (ratC (b) ++ ratC (c))), .a (ratC (a') ++ (ratC (b') ++ ratC (c')))] (.t [.c (.int .i64 (apF (rooF a b c) (rooF a' b' c')).1), .c (.bool (apF (rooF a b c) (rooF a' b' c')).2)]) := by
  refine ret_of_body (md := {}) Tryz.func93 (by kernel_rfl) rfl ?_
  simp only [Tryz.f93, List.map_cons, List.map_nil, List.length_cons, List.length_nil, Nat.zero_add, Nat.reduceAdd, Nat.reduceSub, List.reduceReplicate, List.cons_append, List.nil_append]
  refine pwx_sr 2 [] (by rfl) (fun K1 hK1 => ?_)
  simp (disch := omega) only [go_sem]
  refine hK1 _ ?_
  clear hK1 K1
  refine pwx_sr 1 [] (by rfl) (fun K2 hK2 => ?_)
  refine rgnX_take 2 (fun K3 hK3 => ?_)
  simp (disch := omega) only [go_sem]
  refine ⟨_, c_filter_Root _ _ _ (by omega), ?_⟩
  refine hK3 _ ?_
  simp (disch := omega) only [go_sem]
  refine hK2 _ ?_
  clear hK3 K3 hK2 K2
  refine pwx_sr 1 [] (by rfl) (fun K4 hK4 => ?_)
  refine rgnX_take 2 (fun K5 hK5 => ?_)
  simp (disch := omega) only [go_sem]
  refine ⟨_, c_filter_Root _ _ _ (by omega), ?_⟩
  refine hK5 _ ?_
  simp (disch := omega) only [go_sem]
  refine hK4 _ ?_
  clear hK5 K5 hK4 K4
  refine pwp_seq ?_
  refine pwp_block ?_
  rcases h1 : (rooF a b c).ok with _ | _ <;> rcases h2 : (rooF a' b' c').ok with _ | _
  · refine pwx_sr 0 [some 21, some 22, some 23, some 24, some 25, some 26, some 20] (by rfl) (fun K6 hK6 => ?_)
    simp (disch := omega) only [go_sem, h1, h2]
    refine hK6 _ ?_
    clear hK6 K6
    refine pwp_cond (b := true) (by rfl) (fun _ => ?_) (fun h => nomatch h)
    refine pwx_sr 0 [] (by rfl) (fun K7 hK7 => ?_)
    simp (disch := omega) only [go_sem]
    refine hK7 _ ?_
    clear hK7 K7
    refine pwp_ret ?_
    refine r_block ?_
    refine r_then ?_
    refine ⟨Or.inr rfl, ?_⟩
    simp (disch := omega) only [go_sem]
    rw [apF_1 (by simp [h1])]; exact ⟨rfl, rfl⟩
  · refine pwx_sr 0 [some 21, some 22, some 23, some 24, some 25, some 26, some 20] (by rfl) (fun K8 hK8 => ?_)
    simp (disch := omega) only [go_sem, h1, h2]
    refine hK8 _ ?_
    clear hK8 K8
    refine pwp_cond (b := true) (by rfl) (fun _ => ?_) (fun h => nomatch h)
    refine pwx_sr 0 [] (by rfl) (fun K9 hK9 => ?_)
    simp (disch := omega) only [go_sem]
    refine hK9 _ ?_
    clear hK9 K9
    refine pwp_ret ?_
    refine r_block ?_
    refine r_then ?_
    refine ⟨Or.inr rfl, ?_⟩
    simp (disch := omega) only [go_sem]
    rw [apF_1 (by simp [h1])]; exact ⟨rfl, rfl⟩
  · refine pwx_sr 0 [some 21, some 22, some 23, some 24, some 25, some 26, some 20] (by rfl) (fun K10 hK10 => ?_)
    simp (disch := omega) only [go_sem, h1, h2]
    refine hK10 _ ?_
    clear hK10 K10
    refine pwp_cond (b := true) (by rfl) (fun _ => ?_) (fun h => nomatch h)
    refine pwx_sr 0 [] (by rfl) (fun K11 hK11 => ?_)
    simp (disch := omega) only [go_sem]
    refine hK11 _ ?_
    clear hK11 K11
    refine pwp_ret ?_
    refine r_block ?_
    refine r_then ?_
    refine ⟨Or.inr rfl, ?_⟩
    simp (disch := omega) only [go_sem]
    rw [apF_1 (by simp [h2])]; exact ⟨rfl, rfl⟩
  · refine pwx_sr 0 [some 21, some 22, some 23, some 24, some 25, some 26, some 20] (by rfl) (fun K12 hK12 => ?_)
    simp (disch := omega) only [go_sem, h1, h2]
    refine hK12 _ ?_
    clear hK12 K12
    refine pwp_cond (b := false) (by rfl) (fun h => nomatch h) (fun _ => ?_)
    refine pwx_sr 0 [] (by rfl) (fun K13 hK13 => ?_)
    simp (disch := omega) only [go_sem]
    refine hK13 _ ?_
    clear hK13 K13
    refine pwp_cond (b := _) (by rfl) (fun hb4 => ?_) (fun hb4 => ?_)
    · first | replace hb4 := of_decide_eq_true hb4 | replace hb4 := of_decide_eq_false hb4 | skip
      refine pwx_sr 0 [] (by rfl) (fun K14 hK14 => ?_)
      simp (disch := omega) only [go_sem]
      refine hK14 _ ?_
      clear hK14 K14
      refine pwp_ret ?_
      refine r_block ?_
      refine r_then ?_
      refine ⟨Or.inr rfl, ?_⟩
      simp (disch := omega) only [go_sem]
      rw [apF_2 h1 h2 (by assumption)]; exact ⟨rfl, rfl⟩
    · first | replace hb4 := of_decide_eq_true hb4 | replace hb4 := of_decide_eq_false hb4 | skip
      refine pwx_sr 0 [] (by rfl) (fun K15 hK15 => ?_)
      simp (disch := omega) only [go_sem]
      refine hK15 _ ?_
      clear hK15 K15
      refine pwp_cond (b := _) (by rfl) (fun hb5 => ?_) (fun hb5 => ?_)
      · first | replace hb5 := of_decide_eq_true hb5 | replace hb5 := of_decide_eq_false hb5 | skip
        refine pwx_sr 0 [] (by rfl) (fun K16 hK16 => ?_)
        simp (disch := omega) only [go_sem]
        refine hK16 _ ?_
        clear hK16 K16
        refine pwp_ret ?_
        refine r_block ?_
        refine r_then ?_
        refine ⟨Or.inr rfl, ?_⟩
        simp (disch := omega) only [go_sem]
        rw [apF_3 h1 h2 (by assumption) (by assumption)]; exact ⟨rfl, rfl⟩
      · first | replace hb5 := of_decide_eq_true hb5 | replace hb5 := of_decide_eq_false hb5 | skip
        refine pwp_skip ?_
        refine n_block ?_
        refine n_then ?_
        refine pwx_sr 0 [] (by rfl) (fun K17 hK17 => ?_)
        simp (disch := omega) only [go_sem]
        refine hK17 _ ?_
        clear hK17 K17
        refine pwp_ret ?_
        refine ⟨Or.inr rfl, ?_⟩
        simp (disch := omega) only [go_sem]
        rw [apF_4 h1 h2 (by assumption) (by assumption)]; exact ⟨rfl, rfl⟩
set_option maxHeartbeats 4000000 in
theorem c_radical_Sign (A B C D M N : Rat) {kA kB kC kD kM kN : Nat} [SzR A kA] [SzR B kB] [SzR C kC] [SzR D kD] [SzR M kM] [SzR N kN] (hk : kA + kB + kC + kD + kM + kN ≤ 5000) :
    Ret Tryz.prog 95 [.a (ratC A ++ (ratC B ++ (ratC C ++ (ratC D ++ (ratC M ++ ratC N)))))] (.e (.c (.int .i64 (quad A B C D M N)))) := by
  refine ret_of_body (md := {}) Tryz.func95 (by kernel_rfl) rfl ?_
  simp only [Tryz.f95, List.map_cons, List.map_nil, List.length_cons, List.length_nil, Nat.zero_add, Nat.reduceAdd, Nat.reduceSub, List.reduceReplicate, List.cons_append, List.nil_append]
  have b1 := two_bd A B M
  have b2 := two_bd C D M
  have b3 := mul_bd b2 (sgnQ_bd N)
  have b4 := mul_bd b1 (two_bd (A * A + M * (B * B) - N * (C * C + M * (D * D))) ((A * B - N * (C * D)) + (A * B - N * (C * D))) M)
  refine pwx_sr 1 [] (by rfl) (fun K1 hK1 => ?_)
  simp (disch := omega) only [go_sem]
  refine hK1 _ ?_
  clear hK1 K1
  refine pwp_seq ?_
  by_cases h0 : M < 0
  · refine pwx_sr 0 [some 11, some 12, some 13, some 14, some 15, some 16, some 17, some 18, some 19, some 20] (by rfl) (fun K2 hK2 => ?_)
    refine rgnX_take 3 (fun K3 hK3 => ?_)
    simp (disch := omega) only [go_sem]
    refine ⟨_, c_rational_Sign _, ?_⟩
    refine hK3 _ ?_
    refine rgnX_take 5 (fun K4 hK4 => ?_)
    simp (disch := omega) only [go_sem]
    first | refine ⟨_, c_rational_Sign _, ?_⟩ | skip
    refine hK4 _ ?_
    simp (disch := omega) only [go_sem]
    refine hK2 _ ?_
    clear hK4 K4 hK3 K3 hK2 K2
    refine pwp_cond (b := true) (by rfl) (fun _ => ?_) (fun h => nomatch h)
    refine pwx_sr 0 [] (by rfl) (fun K5 hK5 => ?_)
    simp (disch := omega) only [go_sem]
    refine hK5 _ ?_
    clear hK5 K5
    refine pwp_ret ?_
    refine r_then ?_
    refine ⟨Or.inr rfl, ?_⟩
    simp (disch := omega) only [go_sem]
    rw [quad_0 (.inl h0)]
  · refine pwx_sr 0 [some 11, some 12, some 13, some 14, some 15, some 16, some 17, some 18, some 19, some 20] (by rfl) (fun K6 hK6 => ?_)
    refine rgnX_take 3 (fun K7 hK7 => ?_)
    simp (disch := omega) only [go_sem]
    refine ⟨_, c_rational_Sign _, ?_⟩
    refine hK7 _ ?_
    refine rgnX_take 5 (fun K8 hK8 => ?_)
    simp (disch := omega) only [go_sem]
    first | refine ⟨_, c_rational_Sign _, ?_⟩ | skip
    refine hK8 _ ?_
    simp (disch := omega) only [go_sem]
    refine hK6 _ ?_
    clear hK8 K8 hK7 K7 hK6 K6
    refine pwp_cond (b := _) (by rfl) (fun hb1 => ?_) (fun hb1 => ?_)
    · first | replace hb1 := of_decide_eq_true hb1 | replace hb1 := of_decide_eq_false hb1 | skip
      refine pwx_sr 0 [] (by rfl) (fun K9 hK9 => ?_)
      simp (disch := omega) only [go_sem]
      refine hK9 _ ?_
      clear hK9 K9
      refine pwp_ret ?_
      refine r_then ?_
      refine ⟨Or.inr rfl, ?_⟩
      simp (disch := omega) only [go_sem]
      rw [quad_0 (.inr hb1)]
    · first | replace hb1 := of_decide_eq_true hb1 | replace hb1 := of_decide_eq_false hb1 | skip
      refine pwp_skip ?_
      refine n_then ?_
      refine pwp_seq ?_
      refine pwx_sr 0 [] (by rfl) (fun K10 hK10 => ?_)
      refine rgnX_take 2 (fun K11 hK11 => ?_)
      simp (disch := omega) only [go_sem]
      refine ⟨_, c_radical_quick _ _ _ _ _ _ (by omega), ?_⟩
      refine hK11 _ ?_
      simp (disch := omega) only [go_sem]
      refine hK10 _ ?_
      clear hK11 K11 hK10 K10
      refine pwx_sr 0 [] (by rfl) (fun K12 hK12 => ?_)
      simp (disch := omega) only [go_sem]
      refine hK12 _ ?_
      clear hK12 K12
      refine pwp_cond (b := _) (by rfl) (fun hb2 => ?_) (fun hb2 => ?_)
      · first | replace hb2 := of_decide_eq_true hb2 | replace hb2 := of_decide_eq_false hb2 | skip
        refine pwx_sr 0 [] (by rfl) (fun K13 hK13 => ?_)
        simp (disch := omega) only [go_sem]
        refine hK13 _ ?_
        clear hK13 K13
        refine pwp_ret ?_
        refine r_then ?_
        refine ⟨Or.inr rfl, ?_⟩
        simp (disch := omega) only [go_sem]
        rw [quad_q h0 hb1 hb2]
      · first | replace hb2 := of_decide_eq_true hb2 | replace hb2 := of_decide_eq_false hb2 | skip
        refine pwp_skip ?_
        refine n_then ?_
        refine pwx_sd Tryz.mixed 0 [] (by rfl) [] (by kernel_rfl) (by simp) (fun K14 hK14 => ?_)
        refine rgnX_take 7 (fun K15 hK15 => ?_)
        simp (disch := omega) only [go_sem]
        refine ⟨_, c_radical_plain _ _ _ (by omega), ?_⟩
        refine hK15 _ ?_
        refine rgnX_take 7 (fun K16 hK16 => ?_)
        simp (disch := omega) only [go_sem]
        refine ⟨_, c_radical_plain _ _ _ (by omega), ?_⟩
        refine hK16 _ ?_
        refine rgnX_take 3 (fun K17 hK17 => ?_)
        simp (disch := omega) only [go_sem]
        refine ⟨_, c_rational_Sign _, ?_⟩
        refine hK17 _ ?_
        simp (disch := omega) only [go_sem]
        refine hK14 _ ?_
        clear hK17 K17 hK16 K16 hK15 K15 hK14 K14
        refine pwp_seq ?_
        refine pwp_block ?_
        by_cases h1 : two C D M * sgnQ N = 0
        · refine pwx_sr 0 [some 47, some 48, some 49, some 50, some 51, some 52, some 53, some 46] (by rfl) (fun K18 hK18 => ?_)
          simp (disch := omega) only [go_sem]
          refine hK18 _ ?_
          clear hK18 K18
          refine pwp_cond (b := true) (by rfl) (fun _ => ?_) (fun h => nomatch h)
          refine pwx_sr 0 [] (by rfl) (fun K19 hK19 => ?_)
          simp (disch := omega) only [go_sem]
          refine hK19 _ ?_
          clear hK19 K19
          refine pwp_ret ?_
          refine r_block ?_
          refine r_then ?_
          refine ⟨Or.inr rfl, ?_⟩
          simp (disch := omega) only [go_sem]
          rw [quad_1 h0 hb1 h1]
        · refine pwx_sr 0 [some 47, some 48, some 49, some 50, some 51, some 52, some 53, some 46] (by rfl) (fun K20 hK20 => ?_)
          simp (disch := omega) only [go_sem]
          refine hK20 _ ?_
          clear hK20 K20
          refine pwp_cond (b := _) (by rfl) (fun hb4 => ?_) (fun hb4 => ?_)
          · first | replace hb4 := of_decide_eq_true hb4 | replace hb4 := of_decide_eq_false hb4 | skip
            refine pwx_sr 0 [] (by rfl) (fun K21 hK21 => ?_)
            simp (disch := omega) only [go_sem]
            refine hK21 _ ?_
            clear hK21 K21
            refine pwp_ret ?_
            refine r_block ?_
            refine r_then ?_
            refine ⟨Or.inr rfl, ?_⟩
            simp (disch := omega) only [go_sem]
            rw [quad_2 h0 hb1 (by assumption)]
          · first | replace hb4 := of_decide_eq_true hb4 | replace hb4 := of_decide_eq_false hb4 | skip
            refine pwx_sr 0 [] (by rfl) (fun K22 hK22 => ?_)
            simp (disch := omega) only [go_sem]
            refine hK22 _ ?_
            clear hK22 K22
            refine pwp_cond (b := _) (by rfl) (fun hb5 => ?_) (fun hb5 => ?_)
            · first | replace hb5 := of_decide_eq_true hb5 | replace hb5 := of_decide_eq_false hb5 | skip
              refine pwx_sr 0 [] (by rfl) (fun K23 hK23 => ?_)
              simp (disch := omega) only [go_sem]
              refine hK23 _ ?_
              clear hK23 K23
              refine pwp_ret ?_
              refine r_block ?_
              refine r_then ?_
              refine ⟨Or.inr rfl, ?_⟩
              simp (disch := omega) only [go_sem]
              rw [quad_3 h0 hb1 (by assumption)]
            · first | replace hb5 := of_decide_eq_true hb5 | replace hb5 := of_decide_eq_false hb5 | skip
              refine pwp_skip ?_
              refine n_block ?_
              refine n_then ?_
              refine pwx_sr 0 [] (by rfl) (fun K24 hK24 => ?_)
              simp (disch := omega) only [go_sem]
              refine hK24 _ ?_
              clear hK24 K24
              refine pwx_sr 0 [] (by rfl) (fun K25 hK25 => ?_)
              simp (disch := omega) only [go_sem]
              refine hK25 _ ?_
              clear hK25 K25
              refine pwx_sd Tryz.mixed 1 [] (by rfl) [] (by kernel_rfl) (by simp) (fun K26 hK26 => ?_)
              refine rgnX_take 7 (fun K27 hK27 => ?_)
              simp (disch := omega) only [go_sem]
              refine ⟨_, c_rational_Mul _ _ (by omega), ?_⟩
              refine hK27 _ ?_
              refine rgnX_take 9 (fun K28 hK28 => ?_)
              simp (disch := omega) only [go_sem]
              refine ⟨_, c_rational_Mul _ _ (by omega), ?_⟩
              refine hK28 _ ?_
              refine rgnX_take 1 (fun K29 hK29 => ?_)
              simp (disch := omega) only [go_sem]
              refine ⟨_, c_rational_Mul _ _ (by omega), ?_⟩
              refine hK29 _ ?_
              refine rgnX_take 1 (fun K30 hK30 => ?_)
              simp (disch := omega) only [go_sem]
              refine ⟨_, c_radical_add _ _ (by omega), ?_⟩
              refine hK30 _ ?_
              refine rgnX_take 10 (fun K31 hK31 => ?_)
              simp (disch := omega) only [go_sem]
              refine ⟨_, c_rational_Mul _ _ (by omega), ?_⟩
              refine hK31 _ ?_
              refine rgnX_take 9 (fun K32 hK32 => ?_)
              simp (disch := omega) only [go_sem]
              refine ⟨_, c_rational_Mul _ _ (by omega), ?_⟩
              refine hK32 _ ?_
              refine rgnX_take 1 (fun K33 hK33 => ?_)
              simp (disch := omega) only [go_sem]
              refine ⟨_, c_rational_Mul _ _ (by omega), ?_⟩
              refine hK33 _ ?_
              refine rgnX_take 1 (fun K34 hK34 => ?_)
              simp (disch := omega) only [go_sem]
              refine ⟨_, c_radical_add _ _ (by omega), ?_⟩
              refine hK34 _ ?_
              refine rgnX_take 1 (fun K35 hK35 => ?_)
              simp (disch := omega) only [go_sem]
              refine ⟨_, c_rational_Mul _ _ (by omega), ?_⟩
              refine hK35 _ ?_
              refine rgnX_take 1 (fun K36 hK36 => ?_)
              simp (disch := omega) only [go_sem]
              refine ⟨_, c_rational_Sub _ _ (by omega), ?_⟩
              refine hK36 _ ?_
              simp (disch := omega) only [go_sem]
              refine hK26 _ ?_
              clear hK36 K36 hK35 K35 hK34 K34 hK33 K33 hK32 K32 hK31 K31 hK30 K30 hK29 K29 hK28 K28 hK27 K27 hK26 K26
              refine pwx_sd Tryz.mixed 1 [] (by rfl) [] (by kernel_rfl) (by simp) (fun K37 hK37 => ?_)
              refine rgnX_take 6 (fun K38 hK38 => ?_)
              simp (disch := omega) only [go_sem]
              refine ⟨_, c_rational_Mul _ _ (by omega), ?_⟩
              refine hK38 _ ?_
              refine rgnX_take 9 (fun K39 hK39 => ?_)
              simp (disch := omega) only [go_sem]
              refine ⟨_, c_rational_Mul _ _ (by omega), ?_⟩
              refine hK39 _ ?_
              refine rgnX_take 1 (fun K40 hK40 => ?_)
              simp (disch := omega) only [go_sem]
              refine ⟨_, c_rational_Mul _ _ (by omega), ?_⟩
              refine hK40 _ ?_
              refine rgnX_take 1 (fun K41 hK41 => ?_)
              simp (disch := omega) only [go_sem]
              refine ⟨_, c_rational_Sub _ _ (by omega), ?_⟩
              refine hK41 _ ?_
              simp (disch := omega) only [go_sem]
              refine hK37 _ ?_
              clear hK41 K41 hK40 K40 hK39 K39 hK38 K38 hK37 K37
              refine pwx_sd Tryz.mixed 0 [] (by rfl) [] (by kernel_rfl) (by simp) (fun K42 hK42 => ?_)
              refine rgnX_take 6 (fun K43 hK43 => ?_)
              simp (disch := omega) only [go_sem]
              refine ⟨_, c_radical_add _ _ (by omega), ?_⟩
              refine hK43 _ ?_
              refine rgnX_take 3 (fun K44 hK44 => ?_)
              simp (disch := omega) only [go_sem]
              refine ⟨_, c_radical_plain _ _ _ (by omega), ?_⟩
              refine hK44 _ ?_
              simp (disch := omega) only [go_sem]
              refine hK42 _ ?_
              clear hK44 K44 hK43 K43 hK42 K42
              refine pwp_ret ?_
              refine ⟨Or.inr rfl, ?_⟩
              simp (disch := omega) only [go_sem]
              rw [quad_4 h0 hb1 h1 (by assumption) (by assumption)]
set_option maxHeartbeats 4000000 in
theorem c_radical_Cmp (a b c a' b' c' : Rat) {k l m k' l' m' : Nat} [SzR a k] [SzR b l] [SzR c m] [SzR a' k'] [SzR b' l'] [SzR c' m'] (hk : k + l + m + k' + l' + m' ≤ 2000) (hc : 0 ≤ c) (hc' : 0 ≤ c') :
    Ret Tryz.prog 59 [.a (ratC (a) ++ (ratC (b) ++ ratC (c))), .a (ratC (a') ++ (ratC (b') ++ ratC (c')))] (.e (.c (.int .i64 (cmpR a b c a' b' c')))) := by
  refine ret_of_body (md := {}) Tryz.func59 (by kernel_rfl) rfl ?_
  simp only [Tryz.f59, List.map_cons, List.map_nil, List.length_cons, List.length_nil, Nat.zero_add, Nat.reduceAdd, Nat.reduceSub, List.reduceReplicate, List.cons_append, List.nil_append]
  refine pwx_sr 2 [] (by rfl) (fun K1 hK1 => ?_)
  simp (disch := omega) only [go_sem]
  refine hK1 _ ?_
  clear hK1 K1
  refine pwp_seq ?_
  by_cases h0 : b = 0
  · refine pwx_sr 0 [some 7, some 8, some 9, some 10, some 11, some 12, some 13, some 14, some 15, some 16] (by rfl) (fun K2 hK2 => ?_)
    refine rgnX_take 3 (fun K3 hK3 => ?_)
    simp (disch := omega) only [go_sem]
    refine ⟨_, c_rational_Sign _, ?_⟩
    refine hK3 _ ?_
    refine rgnX_take 5 (fun K4 hK4 => ?_)
    simp (disch := omega) only [go_sem]
    first | refine ⟨_, c_rational_Sign _, ?_⟩ | skip
    refine hK4 _ ?_
    simp (disch := omega) only [go_sem]
    refine hK2 _ ?_
    clear hK4 K4 hK3 K3 hK2 K2
    refine pwp_cond (b := _) (by rfl) (fun hb0 => ?_) (fun hb0 => ?_)
    · first | replace hb0 := of_decide_eq_true hb0 | replace hb0 := of_decide_eq_false hb0 | skip
      refine pwx_sr 0 [] (by rfl) (fun K5 hK5 => ?_)
      refine rgnX_take 5 (fun K6 hK6 => ?_)
      simp (disch := omega) only [go_sem]
      refine ⟨_, c_rational_Cmp _ _ (by omega), ?_⟩
      refine hK6 _ ?_
      simp (disch := omega) only [go_sem]
      refine hK5 _ ?_
      clear hK6 K6 hK5 K5
      refine pwp_ret ?_
      refine r_then ?_
      refine ⟨Or.inr rfl, ?_⟩
      simp (disch := omega) only [go_sem]
      first | (subst h0; subst hb0; exact (cmpR_0 hc hc').symm) | (subst h0; subst hb0; exact cmpR_0 hc hc') | rfl | exact (cmpR_ap hc hc' (by assumption)).symm | (have e : c = c' := (by assumption); subst e; exact cmpR_same hc)
    · first | replace hb0 := of_decide_eq_true hb0 | replace hb0 := of_decide_eq_false hb0 | skip
      refine pwp_skip ?_
      refine n_then ?_
      refine pwp_seq ?_
      refine pwx_sr 0 [] (by rfl) (fun K7 hK7 => ?_)
      refine rgnX_take 3 (fun K8 hK8 => ?_)
      simp (disch := omega) only [go_sem]
      refine ⟨_, c_radical_apart _ _ _ _ _ _ (by omega), ?_⟩
      refine hK8 _ ?_
      simp (disch := omega) only [go_sem]
      refine hK7 _ ?_
      clear hK8 K8 hK7 K7
      refine pwx_sr 0 [] (by rfl) (fun K9 hK9 => ?_)
      simp (disch := omega) only [go_sem]
      refine hK9 _ ?_
      clear hK9 K9
      refine pwp_cond (b := _) (by rfl) (fun hb1 => ?_) (fun hb1 => ?_)
      · first | replace hb1 := of_decide_eq_true hb1 | replace hb1 := of_decide_eq_false hb1 | skip
        refine pwx_sr 0 [] (by rfl) (fun K10 hK10 => ?_)
        simp (disch := omega) only [go_sem]
        refine hK10 _ ?_
        clear hK10 K10
        refine pwp_ret ?_
        refine r_then ?_
        refine ⟨Or.inr rfl, ?_⟩
        simp (disch := omega) only [go_sem]
        first | (subst h0; subst hb0; exact (cmpR_0 hc hc').symm) | (subst h0; subst hb0; exact cmpR_0 hc hc') | rfl | exact (cmpR_ap hc hc' (by assumption)).symm | (have e : c = c' := (by assumption); subst e; exact cmpR_same hc)
      · first | replace hb1 := of_decide_eq_true hb1 | replace hb1 := of_decide_eq_false hb1 | skip
        refine pwp_skip ?_
        refine n_then ?_
        refine pwp_seq ?_
        refine pwx_sr 0 [] (by rfl) (fun K11 hK11 => ?_)
        refine rgnX_take 5 (fun K12 hK12 => ?_)
        simp (disch := omega) only [go_sem]
        refine ⟨_, c_rational_Cmp _ _ (by omega), ?_⟩
        refine hK12 _ ?_
        simp (disch := omega) only [go_sem]
        refine hK11 _ ?_
        clear hK12 K12 hK11 K11
        refine pwp_cond (b := _) (by rfl) (fun hb2 => ?_) (fun hb2 => ?_)
        · first | replace hb2 := of_decide_eq_true hb2 | replace hb2 := of_decide_eq_false hb2 | skip
          refine pwx_sd Tryz.mixed 0 [] (by rfl) [] (by kernel_rfl) (by simp) (fun K13 hK13 => ?_)
          refine rgnX_take 5 (fun K14 hK14 => ?_)
          simp (disch := omega) only [go_sem]
          refine ⟨_, c_rational_Sub _ _ (by omega), ?_⟩
          refine hK14 _ ?_
          refine rgnX_take 5 (fun K15 hK15 => ?_)
          simp (disch := omega) only [go_sem]
          refine ⟨_, c_rational_Sub _ _ (by omega), ?_⟩
          refine hK15 _ ?_
          refine rgnX_take 3 (fun K16 hK16 => ?_)
          simp (disch := omega) only [go_sem]
          refine ⟨_, c_radical_plain _ _ _ (by omega), ?_⟩
          refine hK16 _ ?_
          simp (disch := omega) only [go_sem]
          refine hK13 _ ?_
          clear hK16 K16 hK15 K15 hK14 K14 hK13 K13
          refine pwp_ret ?_
          refine r_then ?_
          refine ⟨Or.inr rfl, ?_⟩
          simp (disch := omega) only [go_sem]
          first | (subst h0; subst hb0; exact (cmpR_0 hc hc').symm) | (subst h0; subst hb0; exact cmpR_0 hc hc') | rfl | exact (cmpR_ap hc hc' (by assumption)).symm | (have e : c = c' := (by assumption); subst e; exact cmpR_same hc)
        · first | replace hb2 := of_decide_eq_true hb2 | replace hb2 := of_decide_eq_false hb2 | skip
          refine pwp_skip ?_
          refine n_then ?_
          refine pwx_sr 0 [] (by rfl) (fun K17 hK17 => ?_)
          refine rgnX_take 3 (fun K18 hK18 => ?_)
          simp (disch := omega) only [go_sem]
          refine ⟨_, c_radical_Sub _ _ _ _ _ _ (by omega), ?_⟩
          refine hK18 _ ?_
          refine rgnX_take 1 (fun K19 hK19 => ?_)
          simp (disch := omega) only [go_sem]
          refine ⟨_, c_radical_Sign _ _ _ _ _ _ (by omega), ?_⟩
          refine hK19 _ ?_
          simp (disch := omega) only [go_sem]
          refine hK17 _ ?_
          clear hK19 K19 hK18 K18 hK17 K17
          refine pwp_ret ?_
          refine ⟨Or.inr rfl, ?_⟩
          simp (disch := omega) only [go_sem]
          first | (subst h0; subst hb0; exact (cmpR_0 hc hc').symm) | (subst h0; subst hb0; exact cmpR_0 hc hc') | rfl | exact (cmpR_ap hc hc' (by assumption)).symm | (have e : c = c' := (by assumption); subst e; exact cmpR_same hc)
  · refine pwx_sr 0 [some 7, some 8, some 9, some 10, some 11, some 12, some 13, some 14, some 15, some 16] (by rfl) (fun K20 hK20 => ?_)
    refine rgnX_take 3 (fun K21 hK21 => ?_)
    simp (disch := omega) only [go_sem]
    refine ⟨_, c_rational_Sign _, ?_⟩
    refine hK21 _ ?_
    refine rgnX_take 5 (fun K22 hK22 => ?_)
    simp (disch := omega) only [go_sem]
    first | refine ⟨_, c_rational_Sign _, ?_⟩ | skip
    refine hK22 _ ?_
    simp (disch := omega) only [go_sem]
    refine hK20 _ ?_
    clear hK22 K22 hK21 K21 hK20 K20
    refine pwp_cond (b := false) (by rfl) (fun h => nomatch h) (fun _ => ?_)
    refine pwp_skip ?_
    refine n_then ?_
    refine pwp_seq ?_
    refine pwx_sr 0 [] (by rfl) (fun K23 hK23 => ?_)
    refine rgnX_take 3 (fun K24 hK24 => ?_)
    simp (disch := omega) only [go_sem]
    refine ⟨_, c_radical_apart _ _ _ _ _ _ (by omega), ?_⟩
    refine hK24 _ ?_
    simp (disch := omega) only [go_sem]
    refine hK23 _ ?_
    clear hK24 K24 hK23 K23
    refine pwx_sr 0 [] (by rfl) (fun K25 hK25 => ?_)
    simp (disch := omega) only [go_sem]
    refine hK25 _ ?_
    clear hK25 K25
    refine pwp_cond (b := _) (by rfl) (fun hb4 => ?_) (fun hb4 => ?_)
    · first | replace hb4 := of_decide_eq_true hb4 | replace hb4 := of_decide_eq_false hb4 | skip
      refine pwx_sr 0 [] (by rfl) (fun K26 hK26 => ?_)
      simp (disch := omega) only [go_sem]
      refine hK26 _ ?_
      clear hK26 K26
      refine pwp_ret ?_
      refine r_then ?_
      refine ⟨Or.inr rfl, ?_⟩
      simp (disch := omega) only [go_sem]
      first | (subst h0; subst hb0; exact (cmpR_0 hc hc').symm) | (subst h0; subst hb0; exact cmpR_0 hc hc') | rfl | exact (cmpR_ap hc hc' (by assumption)).symm | (have e : c = c' := (by assumption); subst e; exact cmpR_same hc)
    · first | replace hb4 := of_decide_eq_true hb4 | replace hb4 := of_decide_eq_false hb4 | skip
      refine pwp_skip ?_
      refine n_then ?_
      refine pwp_seq ?_
      refine pwx_sr 0 [] (by rfl) (fun K27 hK27 => ?_)
      refine rgnX_take 5 (fun K28 hK28 => ?_)
      simp (disch := omega) only [go_sem]
      refine ⟨_, c_rational_Cmp _ _ (by omega), ?_⟩
      refine hK28 _ ?_
      simp (disch := omega) only [go_sem]
      refine hK27 _ ?_
      clear hK28 K28 hK27 K27
      refine pwp_cond (b := _) (by rfl) (fun hb5 => ?_) (fun hb5 => ?_)
      · first | replace hb5 := of_decide_eq_true hb5 | replace hb5 := of_decide_eq_false hb5 | skip
        refine pwx_sd Tryz.mixed 0 [] (by rfl) [] (by kernel_rfl) (by simp) (fun K29 hK29 => ?_)
        refine rgnX_take 5 (fun K30 hK30 => ?_)
        simp (disch := omega) only [go_sem]
        refine ⟨_, c_rational_Sub _ _ (by omega), ?_⟩
        refine hK30 _ ?_
        refine rgnX_take 5 (fun K31 hK31 => ?_)
        simp (disch := omega) only [go_sem]
        refine ⟨_, c_rational_Sub _ _ (by omega), ?_⟩
        refine hK31 _ ?_
        refine rgnX_take 3 (fun K32 hK32 => ?_)
        simp (disch := omega) only [go_sem]
        refine ⟨_, c_radical_plain _ _ _ (by omega), ?_⟩
        refine hK32 _ ?_
        simp (disch := omega) only [go_sem]
        refine hK29 _ ?_
        clear hK32 K32 hK31 K31 hK30 K30 hK29 K29
        refine pwp_ret ?_
        refine r_then ?_
        refine ⟨Or.inr rfl, ?_⟩
        simp (disch := omega) only [go_sem]
        first | (subst h0; subst hb0; exact (cmpR_0 hc hc').symm) | (subst h0; subst hb0; exact cmpR_0 hc hc') | rfl | exact (cmpR_ap hc hc' (by assumption)).symm | (have e : c = c' := (by assumption); subst e; exact cmpR_same hc)
      · first | replace hb5 := of_decide_eq_true hb5 | replace hb5 := of_decide_eq_false hb5 | skip
        refine pwp_skip ?_
        refine n_then ?_
        refine pwx_sr 0 [] (by rfl) (fun K33 hK33 => ?_)
        refine rgnX_take 3 (fun K34 hK34 => ?_)
        simp (disch := omega) only [go_sem]
        refine ⟨_, c_radical_Sub _ _ _ _ _ _ (by omega), ?_⟩
        refine hK34 _ ?_
        refine rgnX_take 1 (fun K35 hK35 => ?_)
        simp (disch := omega) only [go_sem]
        refine ⟨_, c_radical_Sign _ _ _ _ _ _ (by omega), ?_⟩
        refine hK35 _ ?_
        simp (disch := omega) only [go_sem]
        refine hK33 _ ?_
        clear hK35 K35 hK34 K34 hK33 K33
        refine pwp_ret ?_
        refine ⟨Or.inr rfl, ?_⟩
        simp (disch := omega) only [go_sem]
        first | (subst h0; subst hb0; exact (cmpR_0 hc hc').symm) | (subst h0; subst hb0; exact cmpR_0 hc hc') | rfl | exact (cmpR_ap hc hc' (by assumption)).symm | (have e : c = c' := (by assumption); subst e; exact cmpR_same hc)

end Go.Proofs.YtbadkjfjdkbgfaaGreat

set_option linter.unusedSimpArgs false
set_option linter.unusedVariables false
set_option maxRecDepth 20000
namespace Go.Proofs.YtbadkjfjdkbgfaaGreat
open Go Go.PL Go.RL
end Go.Proofs.YtbadkjfjdkbgfaaGreat

namespace Go.PL
open Go.RL
/-- A point's radicand in reduced form. -/
def pC (b d c : Rat) : Rat := if b = 0 ∧ d = 0 then 0 else c
instance SzR.pC {b d c : Rat} {k : Nat} [h : SzR c k] : SzR (pC b d c) (1 + k) := SzR.ite
theorem pC_0 {b d c : Rat} (h : b = 0) (h' : d = 0) : pC b d c = 0 := if_pos ⟨h, h'⟩
theorem pC_1 {b d c : Rat} (h : ¬ b = 0) : pC b d c = c := if_neg fun q => h q.1
theorem pC_2 {b d c : Rat} (h : ¬ d = 0) : pC b d c = c := if_neg fun q => h q.2
theorem rC_0 {b c : Rat} (h : b = 0) : rC b c = 0 := if_pos h
theorem rC_1 {b c : Rat} (h : ¬ b = 0) : rC b c = c := if_neg h
theorem rC_nn {b c : Rat} (h : 0 ≤ c) : 0 ≤ rC b c := by
  unfold rC; split
  · exact Rat.le_refl
  · exact h
theorem rK_0 {b c c' : Rat} (h : b = 0) : rK b c c' = c' := if_pos h
theorem rK_1 {b c c' : Rat} (h : ¬ b = 0) : rK b c c' = c := if_neg h
/-- The order of two points. -/
def cmpP (a b d e c a' b' d' e' c' : Rat) : Int :=
  if cmpR a b (rC b c) a' b' (rC b' c') ≠ 0 then cmpR a b (rC b c) a' b' (rC b' c') else cmpR d e (rC e c) d' e' (rC e' c')
theorem cmpP_0 {a b d e c a' b' d' e' c' : Rat} (h : cmpR a b (rC b c) a' b' (rC b' c') = 0) : cmpP a b d e c a' b' d' e' c' = cmpR d e (rC e c) d' e' (rC e' c') := if_neg (by rw [h]; simp)
theorem cmpP_1 {a b d e c a' b' d' e' c' : Rat} (h : ¬ cmpR a b (rC b c) a' b' (rC b' c') = 0) : cmpP a b d e c a' b' d' e' c' = cmpR a b (rC b c) a' b' (rC b' c') := if_pos h
/-- The square of a distance: its parts. -/
def sqA (a b d e c v w : Rat) : Rat := (a - v) * (a - v) + (d - w) * (d - w) + (b * b + e * e) * c
def sqB2 (a b d e v w : Rat) : Rat := (a - v) * b + (d - w) * e + ((a - v) * b + (d - w) * e)
/-- Is a point of valid numbers in reduced form? -/
def vldP (b e c : Rat) : Bool := if b = 0 ∧ e = 0 then decide (c = 0) else decide (0 < c) && !sqB c
theorem vldP_0 {b e c : Rat} (h : b = 0) (h' : e = 0) : vldP b e c = decide (c = 0) := if_pos ⟨h, h'⟩
theorem vldP_1 {b e c : Rat} (h : ¬ b = 0) : vldP b e c = (decide (0 < c) && !sqB c) := if_neg fun q => h q.1
theorem vldP_2 {b e c : Rat} (h : ¬ e = 0) : vldP b e c = (decide (0 < c) && !sqB c) := if_neg fun q => h q.2
theorem five {a b c d e : Bool} : a = false ∨ (a = true ∧ b = false) ∨ (a = true ∧ b = true ∧ c = false) ∨ (a = true ∧ b = true ∧ c = true ∧ d = false) ∨ (a = true ∧ b = true ∧ c = true ∧ d = true ∧ e = false) ∨ (a = true ∧ b = true ∧ c = true ∧ d = true ∧ e = true) := by
  cases a <;> cases b <;> cases c <;> cases d <;> cases e <;> simp
theorem r3_rC {b c : Rat} (h : b = 0 ∨ ¬ c = 0) : r3B b c = b ∧ r3C b c = rC b c := by
  by_cases hb : b = 0
  · simp [r3B, r3C, rC, hb]
  · have hc : ¬ c = 0 := h.resolve_left hb
    simp [r3B, r3C, rC, hb, hc]
theorem five_f {a b c d e : Bool} (h : ¬ (a = true ∧ b = true ∧ c = true ∧ d = true ∧ e = true)) : a = false ∨ (a = true ∧ b = false) ∨ (a = true ∧ b = true ∧ c = false) ∨ (a = true ∧ b = true ∧ c = true ∧ d = false) ∨ (a = true ∧ b = true ∧ c = true ∧ d = true ∧ e = false) := by
  cases a <;> cases b <;> cases c <;> cases d <;> cases e <;> simp_all
theorem nzi_t {n : Int} (h : (!decide (n = 0)) = true) : ¬ n = 0 := by simpa using h
theorem nzi_f {n : Int} (h : (!decide (n = 0)) = false) : n = 0 := by simpa using h
end Go.PL
