/- The walks of intervals, second part. Conditions: none.
   The walks of intervals, third part. Conditions: none.
   The walks of intervals, fourth part. Conditions: none.
   The walks of intervals, fifth part. Conditions: none.
   The interval of a root in the walks. Conditions: each lemma's own.
   The walks of intervals, sixth part. Conditions: none.
   The pure layer, sixteenth part: calls that write the block to which their first argument points. Conditions: none (lemmas).
   The walks of signs of sums with two roots, first part. Conditions: none.
   Signs of sums with two roots in the walks: by intervals. Conditions: each lemma's own.
   The walks of signs of sums with two roots, second part. Conditions: none.
   Signs of sums with two roots in the walks: exact. Conditions: each lemma's own.
   The walks of signs of sums with two roots, third part. Conditions: none.
   The walks of signs of sums with two roots, fourth part. Conditions: none.
   The walks of the reference's signs of sums with two roots. Conditions: none.
   The walk of root.Floor. Conditions: none.
   Points in the walks. Conditions: each lemma's own.
   The examples of the chapter on points in the walks. Conditions: each lemma's own.
   Statements on points, in plain terms. Conditions: each lemma's own.
   Slices of points in the walks. Conditions: each lemma's own.
   Squares of distances, in plain terms. Conditions: each lemma's own.
   Nearby points in the walks. Conditions: each lemma's own.
   The greatest integer that is not greater than a root, in plain terms. Conditions: each lemma's own. -/
import Derived.Test.YtdojhoegildiaaaGreatQ5
set_option linter.unusedVariables false
set_option linter.unusedSimpArgs false
set_option linter.unusedSimpArgs false
set_option linter.unusedVariables false
set_option maxRecDepth 20000
namespace Go.Proofs.YtdojhoegildiaaaGreat
open Go Go.PL Go.RL
set_option maxHeartbeats 4000000 in
theorem c_filter_abs (x : Int) (hx : -2305843009213693952 ≤ x) (hx' : x ≤ 2305843009213693952) :
    Ret Tryz.prog 138 [.c (.int .i64 x)] (.e (.c (.int .u64 ((x.natAbs : Nat) : Int)))) := by
  refine ret_of_body (md := {}) Tryz.func138 (by kernel_rfl) rfl ?_
  simp only [Tryz.f138, List.map_cons, List.map_nil, List.length_cons, List.length_nil, Nat.zero_add, Nat.reduceAdd, Nat.reduceSub, List.reduceReplicate, List.cons_append, List.nil_append]
  refine pwx_sr 0 [] (by rfl) (fun K1 hK1 => ?_)
  simp (disch := omega) only [go_sem]
  refine hK1 _ ?_
  clear hK1 K1
  refine pwp_seq ?_
  refine pwx_sr 0 [] (by rfl) (fun K2 hK2 => ?_)
  simp (disch := omega) only [go_sem]
  refine hK2 _ ?_
  clear hK2 K2
  refine pwp_cond (b := _) (by rfl) (fun hb0 => ?_) (fun hb0 => ?_)
  · first | replace hb0 := of_decide_eq_true hb0 | replace hb0 := of_decide_eq_false hb0 | skip
    refine pwx_sr 0 [] (by rfl) (fun K3 hK3 => ?_)
    simp (disch := omega) only [go_sem]
    refine hK3 _ ?_
    clear hK3 K3
    refine pwp_ret ?_
    refine r_then ?_
    refine ⟨Or.inr rfl, ?_⟩
    simp (disch := omega) only [go_sem]
    exact (abs_n hb0 hx).symm
  · first | replace hb0 := of_decide_eq_true hb0 | replace hb0 := of_decide_eq_false hb0 | skip
    refine pwp_skip ?_
    refine n_then ?_
    refine pwx_sr 0 [] (by rfl) (fun K4 hK4 => ?_)
    simp (disch := omega) only [go_sem]
    refine hK4 _ ?_
    clear hK4 K4
    refine pwp_ret ?_
    refine ⟨Or.inr rfl, ?_⟩
    simp (disch := omega) only [go_sem]
    omega
set_option maxHeartbeats 4000000 in
theorem c_filter_proper (x y : Int) :
    Ret Tryz.prog 113 [.c (.int .i64 x), .c (.int .i64 y)] (.t [.a [.int .i64 (prF x y).lo, .int .i64 (prF x y).hi], .c (.bool (prF x y).ok)]) := by
  refine ret_of_body (md := {}) Tryz.func113 (by kernel_rfl) rfl ?_
  simp only [Tryz.f113, List.map_cons, List.map_nil, List.length_cons, List.length_nil, Nat.zero_add, Nat.reduceAdd, Nat.reduceSub, List.reduceReplicate, List.cons_append, List.nil_append]
  refine pwx_sr 1 [] (by rfl) (fun K1 hK1 => ?_)
  simp (disch := omega) only [go_sem]
  refine hK1 _ ?_
  clear hK1 K1
  refine pwp_seq ?_
  by_cases h0 : x < -2305843009213693952
  · refine pwx_sr 0 [some 6, some 7, some 8, some 9, some 10, some 11] (by rfl) (fun K2 hK2 => ?_)
    simp (disch := omega) only [go_sem]
    refine hK2 _ ?_
    clear hK2 K2
    refine pwp_cond (b := _) (by rfl) (fun hb0 => ?_) (fun hb0 => ?_)
    · first | replace hb0 := of_decide_eq_true hb0 | replace hb0 := of_decide_eq_false hb0 | skip
      refine pwx_sr 0 [] (by rfl) (fun K3 hK3 => ?_)
      simp (disch := omega) only [go_sem]
      refine hK3 _ ?_
      clear hK3 K3
      refine pwp_ret ?_
      refine r_then ?_
      refine ⟨Or.inr rfl, ?_⟩
      simp (disch := omega) only [go_sem]
      all_goals first | trivial | (rw [prF_n (by omega)]; exact ⟨⟨rfl, rfl⟩, rfl⟩) | (rw [prF_y (by omega) (by omega)]; exact ⟨⟨rfl, rfl⟩, rfl⟩) | contradiction
    · first | replace hb0 := of_decide_eq_true hb0 | replace hb0 := of_decide_eq_false hb0 | skip
      refine pwp_skip ?_
      refine n_then ?_
      refine pwx_sr 0 [] (by rfl) (fun K4 hK4 => ?_)
      simp (disch := omega) only [go_sem]
      refine hK4 _ ?_
      clear hK4 K4
      refine pwp_ret ?_
      refine ⟨Or.inr rfl, ?_⟩
      simp (disch := omega) only [go_sem]
      all_goals first | trivial | (rw [prF_n (by omega)]; exact ⟨⟨rfl, rfl⟩, rfl⟩) | (rw [prF_y (by omega) (by omega)]; exact ⟨⟨rfl, rfl⟩, rfl⟩) | contradiction
  · refine pwx_sr 0 [some 6, some 7, some 8, some 9, some 10, some 11] (by rfl) (fun K5 hK5 => ?_)
    simp (disch := omega) only [go_sem]
    refine hK5 _ ?_
    clear hK5 K5
    refine pwp_cond (b := _) (by rfl) (fun hb1 => ?_) (fun hb1 => ?_)
    · first | replace hb1 := of_decide_eq_true hb1 | replace hb1 := of_decide_eq_false hb1 | skip
      refine pwx_sr 0 [] (by rfl) (fun K6 hK6 => ?_)
      simp (disch := omega) only [go_sem]
      refine hK6 _ ?_
      clear hK6 K6
      refine pwp_ret ?_
      refine r_then ?_
      refine ⟨Or.inr rfl, ?_⟩
      simp (disch := omega) only [go_sem]
      all_goals first | trivial | (rw [prF_n (by omega)]; exact ⟨⟨rfl, rfl⟩, rfl⟩) | (rw [prF_y (by omega) (by omega)]; exact ⟨⟨rfl, rfl⟩, rfl⟩) | contradiction
    · first | replace hb1 := of_decide_eq_true hb1 | replace hb1 := of_decide_eq_false hb1 | skip
      refine pwp_skip ?_
      refine n_then ?_
      refine pwx_sr 0 [] (by rfl) (fun K7 hK7 => ?_)
      simp (disch := omega) only [go_sem]
      refine hK7 _ ?_
      clear hK7 K7
      refine pwp_ret ?_
      refine ⟨Or.inr rfl, ?_⟩
      simp (disch := omega) only [go_sem]
      all_goals first | trivial | (rw [prF_n (by omega)]; exact ⟨⟨rfl, rfl⟩, rfl⟩) | (rw [prF_y (by omega) (by omega)]; exact ⟨⟨rfl, rfl⟩, rfl⟩) | contradiction
set_option maxHeartbeats 4000000 in
theorem c_filter_Sign (i : Iv) :
    Ret Tryz.prog 83 [.a [.int .i64 i.lo, .int .i64 i.hi]] (.t [.c (.int .i64 (siF i).1), .c (.bool (siF i).2)]) := by
  refine ret_of_body (md := {}) Tryz.func83 (by kernel_rfl) rfl ?_
  simp only [Tryz.f83, List.map_cons, List.map_nil, List.length_cons, List.length_nil, Nat.zero_add, Nat.reduceAdd, Nat.reduceSub, List.reduceReplicate, List.cons_append, List.nil_append]
  refine pwx_sr 1 [] (by rfl) (fun K1 hK1 => ?_)
  simp (disch := omega) only [go_sem]
  refine hK1 _ ?_
  clear hK1 K1
  refine pwp_seq ?_
  refine pwp_block ?_
  refine pwx_sr 0 [] (by rfl) (fun K2 hK2 => ?_)
  simp (disch := omega) only [go_sem]
  refine hK2 _ ?_
  clear hK2 K2
  refine pwp_cond (b := _) (by rfl) (fun hb0 => ?_) (fun hb0 => ?_)
  · first | replace hb0 := of_decide_eq_true hb0 | replace hb0 := of_decide_eq_false hb0 | skip
    refine pwx_sr 0 [] (by rfl) (fun K3 hK3 => ?_)
    simp (disch := omega) only [go_sem]
    refine hK3 _ ?_
    clear hK3 K3
    refine pwp_ret ?_
    refine r_block ?_
    refine r_then ?_
    refine ⟨Or.inr rfl, ?_⟩
    simp (disch := omega) only [go_sem]
    rw [siF_1 hb0]; exact ⟨rfl, rfl⟩
  · first | replace hb0 := of_decide_eq_true hb0 | replace hb0 := of_decide_eq_false hb0 | skip
    refine pwx_sr 0 [] (by rfl) (fun K4 hK4 => ?_)
    simp (disch := omega) only [go_sem]
    refine hK4 _ ?_
    clear hK4 K4
    refine pwp_cond (b := _) (by rfl) (fun hb1 => ?_) (fun hb1 => ?_)
    · first | replace hb1 := of_decide_eq_true hb1 | replace hb1 := of_decide_eq_false hb1 | skip
      refine pwx_sr 0 [] (by rfl) (fun K5 hK5 => ?_)
      simp (disch := omega) only [go_sem]
      refine hK5 _ ?_
      clear hK5 K5
      refine pwp_ret ?_
      refine r_block ?_
      refine r_then ?_
      refine ⟨Or.inr rfl, ?_⟩
      simp (disch := omega) only [go_sem]
      rw [siF_2 hb0 hb1]; exact ⟨rfl, rfl⟩
    · first | replace hb1 := of_decide_eq_true hb1 | replace hb1 := of_decide_eq_false hb1 | skip
      refine pwp_skip ?_
      refine n_block ?_
      refine n_then ?_
      by_cases h0 : i.lo = 0
      · refine pwx_sd Tryz.mixed 0 [some 12, some 13, some 14, some 15, some 16, some 17, some 18, some 19, some 2, some 3] (by rfl) [] (by kernel_rfl) (by simp) (fun K6 hK6 => ?_)
        simp (disch := omega) only [go_sem]
        refine hK6 _ ?_
        clear hK6 K6
        refine pwp_ret ?_
        refine ⟨Or.inr rfl, ?_⟩
        simp (disch := omega) only [go_sem]
        rw [siF_3 hb0 hb1, h0]; exact ⟨rfl, by simp⟩
      · refine pwx_sd Tryz.mixed 0 [some 12, some 13, some 14, some 15, some 16, some 17, some 18, some 19, some 2, some 3] (by rfl) [] (by kernel_rfl) (by simp) (fun K7 hK7 => ?_)
        simp (disch := omega) only [go_sem]
        refine hK7 _ ?_
        clear hK7 K7
        refine pwp_ret ?_
        refine ⟨Or.inr rfl, ?_⟩
        simp (disch := omega) only [go_sem]
        rw [siF_3 hb0 hb1, decide_eq_false h0]; exact ⟨rfl, rfl⟩

end Go.Proofs.YtdojhoegildiaaaGreat

set_option linter.unusedSimpArgs false
set_option linter.unusedVariables false
set_option maxRecDepth 20000
namespace Go.Proofs.YtdojhoegildiaaaGreat
open Go Go.PL Go.RL
set_option maxHeartbeats 4000000 in
theorem c_filter_scaled (x y : Int) (hx : -2305843009213693952 ≤ x) (hx' : x ≤ 2305843009213693952) (hy : -2305843009213693952 ≤ y) (hy' : y ≤ 2305843009213693952) :
    Ret Tryz.prog 116 [.c (.int .i64 x), .c (.int .i64 y)] (.t [.c (.int .i64 (scF x y).lo), .c (.int .i64 (scF x y).hi), .c (.bool (scF x y).ok)]) := by
  refine ret_of_body (md := {}) Tryz.func116 (by kernel_rfl) rfl ?_
  simp only [Tryz.f116, List.map_cons, List.map_nil, List.length_cons, List.length_nil, Nat.zero_add, Nat.reduceAdd, Nat.reduceSub, List.reduceReplicate, List.cons_append, List.nil_append]
  refine pwx_sr 0 [] (by rfl) (fun K1 hK1 => ?_)
  simp (disch := omega) only [go_sem]
  refine hK1 _ ?_
  clear hK1 K1
  refine pwx_sr 0 [] (by rfl) (fun K2 hK2 => ?_)
  refine rgnX_take 2 (fun K3 hK3 => ?_)
  simp (disch := omega) only [go_sem]
  refine ⟨_, c_filter_abs _ (by omega) (by omega), ?_⟩
  refine hK3 _ ?_
  refine rgnX_take 2 (fun K4 hK4 => ?_)
  simp (disch := omega) only [go_sem]
  refine ⟨_, c_filter_abs _ (by omega) (by omega), ?_⟩
  refine hK4 _ ?_
  refine rgnX_take 1 (fun K5 hK5 => ?_)
  simp (disch := omega) only [go_sem]
  refine ⟨_, c_bits_Mul64 _ _ (by omega) (by omega), ?_⟩
  refine hK5 _ ?_
  simp (disch := omega) only [go_sem]
  refine hK2 _ ?_
  clear hK5 K5 hK4 K4 hK3 K3 hK2 K2
  refine pwp_seq ?_
  refine pwx_sr 0 [] (by rfl) (fun K6 hK6 => ?_)
  simp (disch := omega) only [go_sem]
  refine hK6 _ ?_
  clear hK6 K6
  refine pwp_cond (b := _) (by rfl) (fun hb0 => ?_) (fun hb0 => ?_)
  · have hq0 := nz_t hb0
    refine pwx_sr 0 [] (by rfl) (fun K7 hK7 => ?_)
    simp (disch := omega) only [go_sem]
    refine hK7 _ ?_
    clear hK7 K7
    refine pwp_ret ?_
    refine r_then ?_
    refine ⟨Or.inr rfl, ?_⟩
    simp (disch := omega) only [go_sem]
    all_goals first | trivial | (rw [scF_a hq0]; exact ⟨rfl, rfl, rfl⟩) | (rw [scF_b (by omega) (by omega)]; exact ⟨rfl, rfl, rfl⟩) | (obtain ⟨e1, e2, e3⟩ := scF_t (k := 0) hq0 hb1 (by assumption) (by assumption) rfl; rw [e1, e2]; refine ⟨by omega, by omega, ?_⟩; first | exact (dec_two e3).1 (by omega) | exact (dec_two e3).2 (by omega)) | (obtain ⟨e1, e2, e3⟩ := scF_t (k := 1) hq0 hb1 (by assumption) (by assumption) rfl; rw [e1, e2]; refine ⟨by omega, by omega, ?_⟩; first | exact (dec_two e3).1 (by omega) | exact (dec_two e3).2 (by omega)) | (obtain ⟨e1, e2, e3⟩ := scF_f (k := 0) hq0 hb1 (by assumption) (by assumption) rfl; rw [e1, e2]; refine ⟨by omega, by omega, ?_⟩; first | exact (dec_two e3).1 (by omega) | exact (dec_two e3).2 (by omega)) | (obtain ⟨e1, e2, e3⟩ := scF_f (k := 1) hq0 hb1 (by assumption) (by assumption) rfl; rw [e1, e2]; refine ⟨by omega, by omega, ?_⟩; first | exact (dec_two e3).1 (by omega) | exact (dec_two e3).2 (by omega))
  · have hq0 := nz_f hb0
    have hq1 : x.natAbs * y.natAbs / 18446744073709551616 < 65536 := by omega
    refine pwp_skip ?_
    refine n_then ?_
    refine pwx_sr 0 [] (by rfl) (fun K8 hK8 => ?_)
    simp (disch := omega) only [go_sem, scq]
    refine hK8 _ ?_
    clear hK8 K8
    refine pwp_seq ?_
    refine pwx_sr 0 [] (by rfl) (fun K9 hK9 => ?_)
    simp (disch := omega) only [go_sem]
    refine hK9 _ ?_
    clear hK9 K9
    refine pwp_cond (b := _) (by rfl) (fun hb1 => ?_) (fun hb1 => ?_)
    · replace hb1 := of_decide_eq_true hb1
      refine pwx_sr 0 [] (by rfl) (fun K10 hK10 => ?_)
      simp (disch := omega) only [go_sem]
      refine hK10 _ ?_
      clear hK10 K10
      refine pwp_ret ?_
      refine r_then ?_
      refine ⟨Or.inr rfl, ?_⟩
      simp (disch := omega) only [go_sem]
      all_goals first | trivial | (rw [scF_a hq0]; exact ⟨rfl, rfl, rfl⟩) | (rw [scF_b (by omega) (by omega)]; exact ⟨rfl, rfl, rfl⟩) | (obtain ⟨e1, e2, e3⟩ := scF_t (k := 0) hq0 hb1 (by assumption) (by assumption) rfl; rw [e1, e2]; refine ⟨by omega, by omega, ?_⟩; first | exact (dec_two e3).1 (by omega) | exact (dec_two e3).2 (by omega)) | (obtain ⟨e1, e2, e3⟩ := scF_t (k := 1) hq0 hb1 (by assumption) (by assumption) rfl; rw [e1, e2]; refine ⟨by omega, by omega, ?_⟩; first | exact (dec_two e3).1 (by omega) | exact (dec_two e3).2 (by omega)) | (obtain ⟨e1, e2, e3⟩ := scF_f (k := 0) hq0 hb1 (by assumption) (by assumption) rfl; rw [e1, e2]; refine ⟨by omega, by omega, ?_⟩; first | exact (dec_two e3).1 (by omega) | exact (dec_two e3).2 (by omega)) | (obtain ⟨e1, e2, e3⟩ := scF_f (k := 1) hq0 hb1 (by assumption) (by assumption) rfl; rw [e1, e2]; refine ⟨by omega, by omega, ?_⟩; first | exact (dec_two e3).1 (by omega) | exact (dec_two e3).2 (by omega))
    · replace hb1 := of_decide_eq_false hb1
      refine pwp_skip ?_
      refine n_then ?_
      refine pwx_sr 0 [] (by rfl) (fun K11 hK11 => ?_)
      simp (disch := omega) only [go_sem]
      refine hK11 _ ?_
      clear hK11 K11
      refine pwp_seq ?_
      refine pwx_sr 0 [] (by rfl) (fun K12 hK12 => ?_)
      simp (disch := omega) only [go_sem]
      refine hK12 _ ?_
      clear hK12 K12
      refine pwp_cond (b := _) (by rfl) (fun hb2 => ?_) (fun hb2 => ?_)
      · first | replace hb2 := of_decide_eq_true hb2 | replace hb2 := of_decide_eq_false hb2 | skip
        refine pwx_region 0 [] (by rfl) (fun K13 hK13 => ?_)
        simp (disch := omega) only [go_sem]
        refine hK13 _ ?_
        clear hK13 K13
        refine n_then ?_
        refine pwp_seq ?_
        refine pwx_sr 0 [] (by rfl) (fun K14 hK14 => ?_)
        simp (disch := omega) only [go_sem]
        refine hK14 _ ?_
        clear hK14 K14
        refine pwp_cond (b := _) (by rfl) (fun hb3 => ?_) (fun hb3 => ?_)
        · first | replace hb3 := of_decide_eq_true hb3 | replace hb3 := of_decide_eq_false hb3 | skip
          refine pwx_region 0 [] (by rfl) (fun K15 hK15 => ?_)
          simp (disch := omega) only [go_sem]
          refine hK15 _ ?_
          clear hK15 K15
          refine n_then ?_
          by_cases hE : x.natAbs * y.natAbs / 65536 = 2305843009213693952
          · refine pwx_sr 0 [some 48, some 49, some 50, some 51, some 52, some 53, some 54, some 55, some 4, some 5, some 6] (by rfl) (fun K16 hK16 => ?_)
            simp (disch := omega) only [go_sem, le_T, le_F]
            refine hK16 _ ?_
            clear hK16 K16
            refine pwp_ret ?_
            refine ⟨Or.inr rfl, ?_⟩
            simp (disch := omega) only [go_sem]
            all_goals first | trivial | (rw [scF_a hq0]; exact ⟨rfl, rfl, rfl⟩) | (rw [scF_b (by omega) (by omega)]; exact ⟨rfl, rfl, rfl⟩) | (obtain ⟨e1, e2, e3⟩ := scF_t (k := 0) hq0 hb1 (by assumption) (by assumption) rfl; rw [e1, e2]; refine ⟨by omega, by omega, ?_⟩; first | exact (dec_two e3).1 (by omega) | exact (dec_two e3).2 (by omega)) | (obtain ⟨e1, e2, e3⟩ := scF_t (k := 1) hq0 hb1 (by assumption) (by assumption) rfl; rw [e1, e2]; refine ⟨by omega, by omega, ?_⟩; first | exact (dec_two e3).1 (by omega) | exact (dec_two e3).2 (by omega)) | (obtain ⟨e1, e2, e3⟩ := scF_f (k := 0) hq0 hb1 (by assumption) (by assumption) rfl; rw [e1, e2]; refine ⟨by omega, by omega, ?_⟩; first | exact (dec_two e3).1 (by omega) | exact (dec_two e3).2 (by omega)) | (obtain ⟨e1, e2, e3⟩ := scF_f (k := 1) hq0 hb1 (by assumption) (by assumption) rfl; rw [e1, e2]; refine ⟨by omega, by omega, ?_⟩; first | exact (dec_two e3).1 (by omega) | exact (dec_two e3).2 (by omega))
          · refine pwx_sr 0 [some 48, some 49, some 50, some 51, some 52, some 53, some 54, some 55, some 4, some 5, some 6] (by rfl) (fun K17 hK17 => ?_)
            simp (disch := omega) only [go_sem, le_T, le_F]
            refine hK17 _ ?_
            clear hK17 K17
            refine pwp_ret ?_
            refine ⟨Or.inr rfl, ?_⟩
            simp (disch := omega) only [go_sem]
            all_goals first | trivial | (rw [scF_a hq0]; exact ⟨rfl, rfl, rfl⟩) | (rw [scF_b (by omega) (by omega)]; exact ⟨rfl, rfl, rfl⟩) | (obtain ⟨e1, e2, e3⟩ := scF_t (k := 0) hq0 hb1 (by assumption) (by assumption) rfl; rw [e1, e2]; refine ⟨by omega, by omega, ?_⟩; first | exact (dec_two e3).1 (by omega) | exact (dec_two e3).2 (by omega)) | (obtain ⟨e1, e2, e3⟩ := scF_t (k := 1) hq0 hb1 (by assumption) (by assumption) rfl; rw [e1, e2]; refine ⟨by omega, by omega, ?_⟩; first | exact (dec_two e3).1 (by omega) | exact (dec_two e3).2 (by omega)) | (obtain ⟨e1, e2, e3⟩ := scF_f (k := 0) hq0 hb1 (by assumption) (by assumption) rfl; rw [e1, e2]; refine ⟨by omega, by omega, ?_⟩; first | exact (dec_two e3).1 (by omega) | exact (dec_two e3).2 (by omega)) | (obtain ⟨e1, e2, e3⟩ := scF_f (k := 1) hq0 hb1 (by assumption) (by assumption) rfl; rw [e1, e2]; refine ⟨by omega, by omega, ?_⟩; first | exact (dec_two e3).1 (by omega) | exact (dec_two e3).2 (by omega))
        · first | replace hb3 := of_decide_eq_true hb3 | replace hb3 := of_decide_eq_false hb3 | skip
          refine pwp_skip ?_
          refine n_then ?_
          by_cases hE : x.natAbs * y.natAbs / 65536 = 2305843009213693952
          · refine pwx_sr 0 [some 48, some 49, some 50, some 51, some 52, some 53, some 54, some 55, some 4, some 5, some 6] (by rfl) (fun K18 hK18 => ?_)
            simp (disch := omega) only [go_sem, le_T, le_F]
            refine hK18 _ ?_
            clear hK18 K18
            refine pwp_ret ?_
            refine ⟨Or.inr rfl, ?_⟩
            simp (disch := omega) only [go_sem]
            all_goals first | trivial | (rw [scF_a hq0]; exact ⟨rfl, rfl, rfl⟩) | (rw [scF_b (by omega) (by omega)]; exact ⟨rfl, rfl, rfl⟩) | (obtain ⟨e1, e2, e3⟩ := scF_t (k := 0) hq0 hb1 (by assumption) (by assumption) rfl; rw [e1, e2]; refine ⟨by omega, by omega, ?_⟩; first | exact (dec_two e3).1 (by omega) | exact (dec_two e3).2 (by omega)) | (obtain ⟨e1, e2, e3⟩ := scF_t (k := 1) hq0 hb1 (by assumption) (by assumption) rfl; rw [e1, e2]; refine ⟨by omega, by omega, ?_⟩; first | exact (dec_two e3).1 (by omega) | exact (dec_two e3).2 (by omega)) | (obtain ⟨e1, e2, e3⟩ := scF_f (k := 0) hq0 hb1 (by assumption) (by assumption) rfl; rw [e1, e2]; refine ⟨by omega, by omega, ?_⟩; first | exact (dec_two e3).1 (by omega) | exact (dec_two e3).2 (by omega)) | (obtain ⟨e1, e2, e3⟩ := scF_f (k := 1) hq0 hb1 (by assumption) (by assumption) rfl; rw [e1, e2]; refine ⟨by omega, by omega, ?_⟩; first | exact (dec_two e3).1 (by omega) | exact (dec_two e3).2 (by omega))
          · refine pwx_sr 0 [some 48, some 49, some 50, some 51, some 52, some 53, some 54, some 55, some 4, some 5, some 6] (by rfl) (fun K19 hK19 => ?_)
            simp (disch := omega) only [go_sem, le_T, le_F]
            refine hK19 _ ?_
            clear hK19 K19
            refine pwp_ret ?_
            refine ⟨Or.inr rfl, ?_⟩
            simp (disch := omega) only [go_sem]
            all_goals first | trivial | (rw [scF_a hq0]; exact ⟨rfl, rfl, rfl⟩) | (rw [scF_b (by omega) (by omega)]; exact ⟨rfl, rfl, rfl⟩) | (obtain ⟨e1, e2, e3⟩ := scF_t (k := 0) hq0 hb1 (by assumption) (by assumption) rfl; rw [e1, e2]; refine ⟨by omega, by omega, ?_⟩; first | exact (dec_two e3).1 (by omega) | exact (dec_two e3).2 (by omega)) | (obtain ⟨e1, e2, e3⟩ := scF_t (k := 1) hq0 hb1 (by assumption) (by assumption) rfl; rw [e1, e2]; refine ⟨by omega, by omega, ?_⟩; first | exact (dec_two e3).1 (by omega) | exact (dec_two e3).2 (by omega)) | (obtain ⟨e1, e2, e3⟩ := scF_f (k := 0) hq0 hb1 (by assumption) (by assumption) rfl; rw [e1, e2]; refine ⟨by omega, by omega, ?_⟩; first | exact (dec_two e3).1 (by omega) | exact (dec_two e3).2 (by omega)) | (obtain ⟨e1, e2, e3⟩ := scF_f (k := 1) hq0 hb1 (by assumption) (by assumption) rfl; rw [e1, e2]; refine ⟨by omega, by omega, ?_⟩; first | exact (dec_two e3).1 (by omega) | exact (dec_two e3).2 (by omega))
      · first | replace hb2 := of_decide_eq_true hb2 | replace hb2 := of_decide_eq_false hb2 | skip
        refine pwp_skip ?_
        refine n_then ?_
        refine pwp_seq ?_
        refine pwx_sr 0 [] (by rfl) (fun K20 hK20 => ?_)
        simp (disch := omega) only [go_sem]
        refine hK20 _ ?_
        clear hK20 K20
        refine pwp_cond (b := _) (by rfl) (fun hb4 => ?_) (fun hb4 => ?_)
        · first | replace hb4 := of_decide_eq_true hb4 | replace hb4 := of_decide_eq_false hb4 | skip
          refine pwx_region 0 [] (by rfl) (fun K21 hK21 => ?_)
          simp (disch := omega) only [go_sem]
          refine hK21 _ ?_
          clear hK21 K21
          refine n_then ?_
          by_cases hE : x.natAbs * y.natAbs / 65536 = 2305843009213693952
          · refine pwx_sr 0 [some 48, some 49, some 50, some 51, some 52, some 53, some 54, some 55, some 4, some 5, some 6] (by rfl) (fun K22 hK22 => ?_)
            simp (disch := omega) only [go_sem, le_T, le_F]
            refine hK22 _ ?_
            clear hK22 K22
            refine pwp_ret ?_
            refine ⟨Or.inr rfl, ?_⟩
            simp (disch := omega) only [go_sem]
            all_goals first | trivial | (rw [scF_a hq0]; exact ⟨rfl, rfl, rfl⟩) | (rw [scF_b (by omega) (by omega)]; exact ⟨rfl, rfl, rfl⟩) | (obtain ⟨e1, e2, e3⟩ := scF_t (k := 0) hq0 hb1 (by assumption) (by assumption) rfl; rw [e1, e2]; refine ⟨by omega, by omega, ?_⟩; first | exact (dec_two e3).1 (by omega) | exact (dec_two e3).2 (by omega)) | (obtain ⟨e1, e2, e3⟩ := scF_t (k := 1) hq0 hb1 (by assumption) (by assumption) rfl; rw [e1, e2]; refine ⟨by omega, by omega, ?_⟩; first | exact (dec_two e3).1 (by omega) | exact (dec_two e3).2 (by omega)) | (obtain ⟨e1, e2, e3⟩ := scF_f (k := 0) hq0 hb1 (by assumption) (by assumption) rfl; rw [e1, e2]; refine ⟨by omega, by omega, ?_⟩; first | exact (dec_two e3).1 (by omega) | exact (dec_two e3).2 (by omega)) | (obtain ⟨e1, e2, e3⟩ := scF_f (k := 1) hq0 hb1 (by assumption) (by assumption) rfl; rw [e1, e2]; refine ⟨by omega, by omega, ?_⟩; first | exact (dec_two e3).1 (by omega) | exact (dec_two e3).2 (by omega))
          · refine pwx_sr 0 [some 48, some 49, some 50, some 51, some 52, some 53, some 54, some 55, some 4, some 5, some 6] (by rfl) (fun K23 hK23 => ?_)
            simp (disch := omega) only [go_sem, le_T, le_F]
            refine hK23 _ ?_
            clear hK23 K23
            refine pwp_ret ?_
            refine ⟨Or.inr rfl, ?_⟩
            simp (disch := omega) only [go_sem]
            all_goals first | trivial | (rw [scF_a hq0]; exact ⟨rfl, rfl, rfl⟩) | (rw [scF_b (by omega) (by omega)]; exact ⟨rfl, rfl, rfl⟩) | (obtain ⟨e1, e2, e3⟩ := scF_t (k := 0) hq0 hb1 (by assumption) (by assumption) rfl; rw [e1, e2]; refine ⟨by omega, by omega, ?_⟩; first | exact (dec_two e3).1 (by omega) | exact (dec_two e3).2 (by omega)) | (obtain ⟨e1, e2, e3⟩ := scF_t (k := 1) hq0 hb1 (by assumption) (by assumption) rfl; rw [e1, e2]; refine ⟨by omega, by omega, ?_⟩; first | exact (dec_two e3).1 (by omega) | exact (dec_two e3).2 (by omega)) | (obtain ⟨e1, e2, e3⟩ := scF_f (k := 0) hq0 hb1 (by assumption) (by assumption) rfl; rw [e1, e2]; refine ⟨by omega, by omega, ?_⟩; first | exact (dec_two e3).1 (by omega) | exact (dec_two e3).2 (by omega)) | (obtain ⟨e1, e2, e3⟩ := scF_f (k := 1) hq0 hb1 (by assumption) (by assumption) rfl; rw [e1, e2]; refine ⟨by omega, by omega, ?_⟩; first | exact (dec_two e3).1 (by omega) | exact (dec_two e3).2 (by omega))
        · first | replace hb4 := of_decide_eq_true hb4 | replace hb4 := of_decide_eq_false hb4 | skip
          refine pwp_skip ?_
          refine n_then ?_
          by_cases hE : x.natAbs * y.natAbs / 65536 = 2305843009213693952
          · refine pwx_sr 0 [some 48, some 49, some 50, some 51, some 52, some 53, some 54, some 55, some 4, some 5, some 6] (by rfl) (fun K24 hK24 => ?_)
            simp (disch := omega) only [go_sem, le_T, le_F]
            refine hK24 _ ?_
            clear hK24 K24
            refine pwp_ret ?_
            refine ⟨Or.inr rfl, ?_⟩
            simp (disch := omega) only [go_sem]
            all_goals first | trivial | (rw [scF_a hq0]; exact ⟨rfl, rfl, rfl⟩) | (rw [scF_b (by omega) (by omega)]; exact ⟨rfl, rfl, rfl⟩) | (obtain ⟨e1, e2, e3⟩ := scF_t (k := 0) hq0 hb1 (by assumption) (by assumption) rfl; rw [e1, e2]; refine ⟨by omega, by omega, ?_⟩; first | exact (dec_two e3).1 (by omega) | exact (dec_two e3).2 (by omega)) | (obtain ⟨e1, e2, e3⟩ := scF_t (k := 1) hq0 hb1 (by assumption) (by assumption) rfl; rw [e1, e2]; refine ⟨by omega, by omega, ?_⟩; first | exact (dec_two e3).1 (by omega) | exact (dec_two e3).2 (by omega)) | (obtain ⟨e1, e2, e3⟩ := scF_f (k := 0) hq0 hb1 (by assumption) (by assumption) rfl; rw [e1, e2]; refine ⟨by omega, by omega, ?_⟩; first | exact (dec_two e3).1 (by omega) | exact (dec_two e3).2 (by omega)) | (obtain ⟨e1, e2, e3⟩ := scF_f (k := 1) hq0 hb1 (by assumption) (by assumption) rfl; rw [e1, e2]; refine ⟨by omega, by omega, ?_⟩; first | exact (dec_two e3).1 (by omega) | exact (dec_two e3).2 (by omega))
          · refine pwx_sr 0 [some 48, some 49, some 50, some 51, some 52, some 53, some 54, some 55, some 4, some 5, some 6] (by rfl) (fun K25 hK25 => ?_)
            simp (disch := omega) only [go_sem, le_T, le_F]
            refine hK25 _ ?_
            clear hK25 K25
            refine pwp_ret ?_
            refine ⟨Or.inr rfl, ?_⟩
            simp (disch := omega) only [go_sem]
            all_goals first | trivial | (rw [scF_a hq0]; exact ⟨rfl, rfl, rfl⟩) | (rw [scF_b (by omega) (by omega)]; exact ⟨rfl, rfl, rfl⟩) | (obtain ⟨e1, e2, e3⟩ := scF_t (k := 0) hq0 hb1 (by assumption) (by assumption) rfl; rw [e1, e2]; refine ⟨by omega, by omega, ?_⟩; first | exact (dec_two e3).1 (by omega) | exact (dec_two e3).2 (by omega)) | (obtain ⟨e1, e2, e3⟩ := scF_t (k := 1) hq0 hb1 (by assumption) (by assumption) rfl; rw [e1, e2]; refine ⟨by omega, by omega, ?_⟩; first | exact (dec_two e3).1 (by omega) | exact (dec_two e3).2 (by omega)) | (obtain ⟨e1, e2, e3⟩ := scF_f (k := 0) hq0 hb1 (by assumption) (by assumption) rfl; rw [e1, e2]; refine ⟨by omega, by omega, ?_⟩; first | exact (dec_two e3).1 (by omega) | exact (dec_two e3).2 (by omega)) | (obtain ⟨e1, e2, e3⟩ := scF_f (k := 1) hq0 hb1 (by assumption) (by assumption) rfl; rw [e1, e2]; refine ⟨by omega, by omega, ?_⟩; first | exact (dec_two e3).1 (by omega) | exact (dec_two e3).2 (by omega))

end Go.Proofs.YtdojhoegildiaaaGreat

set_option linter.unusedSimpArgs false
set_option linter.unusedVariables false
set_option maxRecDepth 20000
namespace Go.Proofs.YtdojhoegildiaaaGreat
open Go Go.PL Go.RL
set_option maxHeartbeats 4000000 in
theorem c_filter_Add (i j : Iv) (hi : i.Bd) (hj : j.Bd) :
    Ret Tryz.prog 82 [.a [.int .i64 i.lo, .int .i64 i.hi], .a [.int .i64 j.lo, .int .i64 j.hi]] (.t [.a [.int .i64 (adF i j).lo, .int .i64 (adF i j).hi], .c (.bool (adF i j).ok)]) := by
  refine ret_of_body (md := {}) Tryz.func82 (by kernel_rfl) rfl ?_
  simp only [Tryz.f82, List.map_cons, List.map_nil, List.length_cons, List.length_nil, Nat.zero_add, Nat.reduceAdd, Nat.reduceSub, List.reduceReplicate, List.cons_append, List.nil_append]
  obtain ⟨i1, i2, i3⟩ := hi
  obtain ⟨j1, j2, j3⟩ := hj
  refine pwx_sr 3 [] (by rfl) (fun K1 hK1 => ?_)
  simp (disch := omega) only [go_sem]
  refine hK1 _ ?_
  clear hK1 K1
  refine pwx_sr 0 [] (by rfl) (fun K2 hK2 => ?_)
  refine rgnX_take 11 (fun K3 hK3 => ?_)
  simp (disch := omega) only [go_sem]
  refine ⟨_, c_filter_proper _ _, ?_⟩
  refine hK3 _ ?_
  simp (disch := omega) only [go_sem]
  refine hK2 _ ?_
  clear hK3 K3 hK2 K2
  refine pwp_ret ?_
  refine ⟨Or.inr rfl, ?_⟩
  simp (disch := omega) only [go_sem]
  all_goals exact ⟨⟨rfl, rfl⟩, rfl⟩
set_option maxHeartbeats 4000000 in
theorem c_filter_FromRat (a : Rat) {k : Nat} [SzR a k] (hk : k ≤ 20000) :
    Ret Tryz.prog 80 [.a (ratC a)] (.t [.a [.int .i64 (frF a).lo, .int .i64 (frF a).hi], .c (.bool (frF a).ok)]) := by
  refine ret_of_body (md := {}) Tryz.func80 (by kernel_rfl) rfl ?_
  simp only [Tryz.f80, List.map_cons, List.map_nil, List.length_cons, List.length_nil, Nat.zero_add, Nat.reduceAdd, Nat.reduceSub, List.reduceReplicate, List.cons_append, List.nil_append]
  refine pwx_sr 2 [] (by rfl) (fun K1 hK1 => ?_)
  simp (disch := omega) only [go_sem]
  refine hK1 _ ?_
  clear hK1 K1
  refine pwx_sd Tryz.mixed 1 [] (by rfl) [] (by kernel_rfl) (by simp) (fun K2 hK2 => ?_)
  refine rgnX_take 2 (fun K3 hK3 => ?_)
  simp (disch := omega) only [go_sem, ic65536]
  refine ⟨_, c_rational_FromInt64 _ (by omega) (by omega), ?_⟩
  refine hK3 _ ?_
  refine rgnX_take 1 (fun K4 hK4 => ?_)
  simp (disch := omega) only [go_sem, ic65536]
  refine ⟨_, c_rational_Mul _ _ (by omega), ?_⟩
  refine hK4 _ ?_
  simp (disch := omega) only [go_sem, ic65536]
  refine hK2 _ ?_
  clear hK4 K4 hK3 K3 hK2 K2
  refine pwx_sr 0 [] (by rfl) (fun K5 hK5 => ?_)
  refine rgnX_take 2 (fun K6 hK6 => ?_)
  simp (disch := omega) only [go_sem]
  refine ⟨_, c_rational_Floor _ (by omega), ?_⟩
  refine hK6 _ ?_
  refine rgnX_take 1 (fun K7 hK7 => ?_)
  simp (disch := omega) only [go_sem]
  refine ⟨_, c_integer_Int64 _ szi, ?_⟩
  refine hK7 _ ?_
  simp (disch := omega) only [go_sem]
  refine hK5 _ ?_
  clear hK7 K7 hK6 K6 hK5 K5
  refine pwx_sr 0 [] (by rfl) (fun K8 hK8 => ?_)
  refine rgnX_take 2 (fun K9 hK9 => ?_)
  simp (disch := omega) only [go_sem]
  refine ⟨_, c_rational_Neg _ (by omega), ?_⟩
  refine hK9 _ ?_
  refine rgnX_take 1 (fun K10 hK10 => ?_)
  simp (disch := omega) only [go_sem]
  refine ⟨_, c_rational_Floor _ (by omega), ?_⟩
  refine hK10 _ ?_
  refine rgnX_take 1 (fun K11 hK11 => ?_)
  simp (disch := omega) only [go_sem]
  refine ⟨_, c_integer_Neg _ szi, ?_⟩
  refine hK11 _ ?_
  refine rgnX_take 1 (fun K12 hK12 => ?_)
  simp (disch := omega) only [go_sem]
  refine ⟨_, c_integer_Int64 _ szi, ?_⟩
  refine hK12 _ ?_
  simp (disch := omega) only [go_sem]
  refine hK8 _ ?_
  clear hK12 K12 hK11 K11 hK10 K10 hK9 K9 hK8 K8
  refine pwp_seq ?_
  rcases h1 : fit64 (a * 65536).floor with _ | _ <;> rcases h2 : fit64 (-(-(a * 65536)).floor) with _ | _
  · refine pwx_sr 0 [some 26, some 27, some 28, some 29, some 30, some 31] (by rfl) (fun K13 hK13 => ?_)
    simp (disch := omega) only [go_sem, h1, h2]
    refine hK13 _ ?_
    clear hK13 K13
    refine pwp_cond (b := true) (by rfl) (fun _ => ?_) (fun h => nomatch h)
    refine pwx_sr 0 [] (by rfl) (fun K14 hK14 => ?_)
    simp (disch := omega) only [go_sem]
    refine hK14 _ ?_
    clear hK14 K14
    refine pwp_ret ?_
    refine r_then ?_
    refine ⟨Or.inr rfl, ?_⟩
    simp (disch := omega) only [go_sem]
    all_goals first | (rw [frF_1 h1]; exact ⟨⟨rfl, rfl⟩, rfl⟩) | (rw [frF_2 h2]; exact ⟨⟨rfl, rfl⟩, rfl⟩) | (rw [frF_y h1 h2]; exact ⟨⟨rfl, rfl⟩, rfl⟩)
  · refine pwx_sr 0 [some 26, some 27, some 28, some 29, some 30, some 31] (by rfl) (fun K15 hK15 => ?_)
    simp (disch := omega) only [go_sem, h1, h2]
    refine hK15 _ ?_
    clear hK15 K15
    refine pwp_cond (b := true) (by rfl) (fun _ => ?_) (fun h => nomatch h)
    refine pwx_sr 0 [] (by rfl) (fun K16 hK16 => ?_)
    simp (disch := omega) only [go_sem]
    refine hK16 _ ?_
    clear hK16 K16
    refine pwp_ret ?_
    refine r_then ?_
    refine ⟨Or.inr rfl, ?_⟩
    simp (disch := omega) only [go_sem]
    all_goals first | (rw [frF_1 h1]; exact ⟨⟨rfl, rfl⟩, rfl⟩) | (rw [frF_2 h2]; exact ⟨⟨rfl, rfl⟩, rfl⟩) | (rw [frF_y h1 h2]; exact ⟨⟨rfl, rfl⟩, rfl⟩)
  · refine pwx_sr 0 [some 26, some 27, some 28, some 29, some 30, some 31] (by rfl) (fun K17 hK17 => ?_)
    simp (disch := omega) only [go_sem, h1, h2]
    refine hK17 _ ?_
    clear hK17 K17
    refine pwp_cond (b := true) (by rfl) (fun _ => ?_) (fun h => nomatch h)
    refine pwx_sr 0 [] (by rfl) (fun K18 hK18 => ?_)
    simp (disch := omega) only [go_sem]
    refine hK18 _ ?_
    clear hK18 K18
    refine pwp_ret ?_
    refine r_then ?_
    refine ⟨Or.inr rfl, ?_⟩
    simp (disch := omega) only [go_sem]
    all_goals first | (rw [frF_1 h1]; exact ⟨⟨rfl, rfl⟩, rfl⟩) | (rw [frF_2 h2]; exact ⟨⟨rfl, rfl⟩, rfl⟩) | (rw [frF_y h1 h2]; exact ⟨⟨rfl, rfl⟩, rfl⟩)
  · refine pwx_sr 0 [some 26, some 27, some 28, some 29, some 30, some 31] (by rfl) (fun K19 hK19 => ?_)
    simp (disch := omega) only [go_sem, h1, h2]
    refine hK19 _ ?_
    clear hK19 K19
    refine pwp_cond (b := false) (by rfl) (fun h => nomatch h) (fun _ => ?_)
    refine pwp_skip ?_
    refine n_then ?_
    refine pwx_sr 0 [] (by rfl) (fun K20 hK20 => ?_)
    refine rgnX_take 3 (fun K21 hK21 => ?_)
    simp (disch := omega) only [go_sem, h1, h2]
    refine ⟨_, c_filter_proper _ _, ?_⟩
    refine hK21 _ ?_
    simp (disch := omega) only [go_sem, h1, h2]
    refine hK20 _ ?_
    clear hK21 K21 hK20 K20
    refine pwp_ret ?_
    refine ⟨Or.inr rfl, ?_⟩
    simp (disch := omega) only [go_sem]
    all_goals first | (rw [frF_1 h1]; exact ⟨⟨rfl, rfl⟩, rfl⟩) | (rw [frF_2 h2]; exact ⟨⟨rfl, rfl⟩, rfl⟩) | (rw [frF_y h1 h2]; exact ⟨⟨rfl, rfl⟩, rfl⟩)
set_option maxHeartbeats 4000000 in
theorem c_filter_root (n : Int) (hn : 0 ≤ n) (hn' : n ≤ 2305843009213693952) :
    Ret Tryz.prog 112 [.c (.int .i64 n)] (.t [.c (.int .i64 (sqrtI (n * 65536))), .c (.bool (decide (sqrtI (n * 65536) * sqrtI (n * 65536) = n * 65536)))]) := by
  refine ret_of_body (md := {}) Tryz.func112 (by kernel_rfl) rfl ?_
  simp only [Tryz.f112, List.map_cons, List.map_nil, List.length_cons, List.length_nil, Nat.zero_add, Nat.reduceAdd, Nat.reduceSub, List.reduceReplicate, List.cons_append, List.nil_append]
  haveI := szi_61 (show -2305843009213693953 ≤ n by omega) (show n ≤ 2305843009213693953 by omega)
  obtain ⟨h1, h2⟩ := sqrtI_61 hn hn'
  have hf : fit64 (sqrtI (n * 65536)) = true := fit64_in (by omega) (by omega)
  refine pwx_sr 0 [] (by rfl) (fun K1 hK1 => ?_)
  simp (disch := omega) only [go_sem]
  refine hK1 _ ?_
  clear hK1 K1
  refine pwx_sr 1 [] (by rfl) (fun K2 hK2 => ?_)
  refine rgnX_take 2 (fun K3 hK3 => ?_)
  simp (disch := omega) only [go_sem]
  refine ⟨_, c_integer_FromInt64 _ (by omega) (by omega), ?_⟩
  refine hK3 _ ?_
  refine rgnX_take 1 (fun K4 hK4 => ?_)
  simp (disch := omega) only [go_sem]
  refine ⟨_, c_integer_FromInt64 _ (by omega) (by omega), ?_⟩
  refine hK4 _ ?_
  refine rgnX_take 1 (fun K5 hK5 => ?_)
  simp (disch := omega) only [go_sem]
  refine ⟨_, c_integer_Mul _ _ szi szi, ?_⟩
  refine hK5 _ ?_
  simp (disch := omega) only [go_sem]
  refine hK2 _ ?_
  clear hK5 K5 hK4 K4 hK3 K3 hK2 K2
  refine pwx_sr 1 [] (by rfl) (fun K6 hK6 => ?_)
  refine rgnX_take 2 (fun K7 hK7 => ?_)
  simp (disch := omega) only [go_sem]
  refine ⟨_, c_integer_Sqrt _ szi9, ?_⟩
  refine hK7 _ ?_
  simp (disch := omega) only [go_sem]
  refine hK6 _ ?_
  clear hK7 K7 hK6 K6
  refine pwx_sr 0 [] (by rfl) (fun K8 hK8 => ?_)
  refine rgnX_take 2 (fun K9 hK9 => ?_)
  simp (disch := omega) only [go_sem]
  refine ⟨_, c_integer_Int64 _ szi, ?_⟩
  refine hK9 _ ?_
  simp (disch := omega) only [go_sem]
  refine hK8 _ ?_
  clear hK9 K9 hK8 K8
  refine pwx_sd Tryz.mixed 0 [] (by rfl) [] (by kernel_rfl) (by simp) (fun K10 hK10 => ?_)
  refine rgnX_take 4 (fun K11 hK11 => ?_)
  simp (disch := omega) only [go_sem]
  refine ⟨_, c_integer_Mul _ _ szi szi, ?_⟩
  refine hK11 _ ?_
  refine rgnX_take 2 (fun K12 hK12 => ?_)
  simp (disch := omega) only [go_sem]
  refine ⟨_, c_integer_Cmp _ _ szi szi, ?_⟩
  refine hK12 _ ?_
  simp (disch := omega) only [go_sem]
  refine hK10 _ ?_
  clear hK12 K12 hK11 K11 hK10 K10
  refine pwp_ret ?_
  refine ⟨Or.inr rfl, ?_⟩
  simp (disch := omega) only [go_sem]
  all_goals rw [if_pos hf]
set_option maxHeartbeats 4000000 in
theorem c_filter_Sqrt (i : Iv) (hi : i.Bd) :
    Ret Tryz.prog 79 [.a [.int .i64 i.lo, .int .i64 i.hi]] (.t [.a [.int .i64 (sqF i).lo, .int .i64 (sqF i).hi], .c (.bool (sqF i).ok)]) := by
  refine ret_of_body (md := {}) Tryz.func79 (by kernel_rfl) rfl ?_
  simp only [Tryz.f79, List.map_cons, List.map_nil, List.length_cons, List.length_nil, Nat.zero_add, Nat.reduceAdd, Nat.reduceSub, List.reduceReplicate, List.cons_append, List.nil_append]
  obtain ⟨i1, i2, i3⟩ := hi
  refine pwx_sr 2 [] (by rfl) (fun K1 hK1 => ?_)
  simp (disch := omega) only [go_sem]
  refine hK1 _ ?_
  clear hK1 K1
  refine pwp_seq ?_
  refine pwx_sr 0 [] (by rfl) (fun K2 hK2 => ?_)
  simp (disch := omega) only [go_sem]
  refine hK2 _ ?_
  clear hK2 K2
  refine pwp_cond (b := _) (by rfl) (fun hb0 => ?_) (fun hb0 => ?_)
  · first | replace hb0 := of_decide_eq_true hb0 | replace hb0 := of_decide_eq_false hb0 | skip
    refine pwx_sr 0 [] (by rfl) (fun K3 hK3 => ?_)
    simp (disch := omega) only [go_sem]
    refine hK3 _ ?_
    clear hK3 K3
    refine pwp_ret ?_
    refine r_then ?_
    refine ⟨Or.inr rfl, ?_⟩
    simp (disch := omega) only [go_sem]
    all_goals first | (rw [sqF_n hb0]; exact ⟨⟨rfl, rfl⟩, rfl⟩) | (rw [sqF_y hb0 hb1]; exact ⟨⟨rfl, rfl⟩, rfl⟩)
  · replace hb0 := of_decide_eq_false hb0
    have hm : 0 ≤ (if i.lo < 0 then 0 else i.lo) ∧ (if i.lo < 0 then 0 else i.lo) ≤ 2305843009213693952 := by split <;> omega
    obtain ⟨hm1, hm2⟩ := hm
    obtain ⟨q1, q2⟩ := sqrtI_61 (z := i.hi) (by omega) (by omega)
    refine pwp_skip ?_
    refine n_then ?_
    refine pwx_sr 0 [] (by rfl) (fun K4 hK4 => ?_)
    refine rgnX_take 4 (fun K5 hK5 => ?_)
    simp (disch := omega) only [go_sem]
    refine ⟨_, c_filter_root _ (by omega) (by omega), ?_⟩
    refine hK5 _ ?_
    simp (disch := omega) only [go_sem]
    refine hK4 _ ?_
    clear hK5 K5 hK4 K4
    refine pwx_sr 0 [] (by rfl) (fun K6 hK6 => ?_)
    refine rgnX_take 3 (fun K7 hK7 => ?_)
    simp (disch := omega) only [go_sem]
    refine ⟨_, c_filter_root _ (by omega) (by omega), ?_⟩
    refine hK7 _ ?_
    simp (disch := omega) only [go_sem]
    refine hK6 _ ?_
    clear hK7 K7 hK6 K6
    refine pwp_seq ?_
    refine pwx_sr 0 [] (by rfl) (fun K8 hK8 => ?_)
    simp (disch := omega) only [go_sem]
    refine hK8 _ ?_
    clear hK8 K8
    refine pwp_cond (b := _) (by rfl) (fun hb1 => ?_) (fun hb1 => ?_)
    · replace hb1 := not_t hb1
      refine pwx_region 0 [] (by rfl) (fun K9 hK9 => ?_)
      simp (disch := omega) only [go_sem]
      refine hK9 _ ?_
      clear hK9 K9
      refine n_then ?_
      refine pwx_sr 0 [] (by rfl) (fun K10 hK10 => ?_)
      refine rgnX_take 3 (fun K11 hK11 => ?_)
      simp (disch := omega) only [go_sem]
      refine ⟨_, c_filter_proper _ _, ?_⟩
      refine hK11 _ ?_
      simp (disch := omega) only [go_sem]
      refine hK10 _ ?_
      clear hK11 K11 hK10 K10
      refine pwp_ret ?_
      refine ⟨Or.inr rfl, ?_⟩
      simp (disch := omega) only [go_sem]
      all_goals first | (rw [sqF_n hb0]; exact ⟨⟨rfl, rfl⟩, rfl⟩) | (rw [sqF_y hb0 hb1]; exact ⟨⟨rfl, rfl⟩, rfl⟩)
    · replace hb1 := not_f hb1
      refine pwp_skip ?_
      refine n_then ?_
      refine pwx_sr 0 [] (by rfl) (fun K12 hK12 => ?_)
      refine rgnX_take 3 (fun K13 hK13 => ?_)
      simp (disch := omega) only [go_sem]
      refine ⟨_, c_filter_proper _ _, ?_⟩
      refine hK13 _ ?_
      simp (disch := omega) only [go_sem]
      refine hK12 _ ?_
      clear hK13 K13 hK12 K12
      refine pwp_ret ?_
      refine ⟨Or.inr rfl, ?_⟩
      simp (disch := omega) only [go_sem]
      all_goals first | (rw [sqF_n hb0]; exact ⟨⟨rfl, rfl⟩, rfl⟩) | (rw [sqF_y hb0 hb1]; exact ⟨⟨rfl, rfl⟩, rfl⟩)

end Go.Proofs.YtdojhoegildiaaaGreat

set_option linter.unusedSimpArgs false
set_option linter.unusedVariables false
set_option maxRecDepth 20000
namespace Go.Proofs.YtdojhoegildiaaaGreat
open Go Go.PL Go.RL
set_option maxHeartbeats 4000000 in
theorem c_filter_Mul (i j : Iv) (hi : i.Bd) (hj : j.Bd) :
    Ret Tryz.prog 81 [.a [.int .i64 i.lo, .int .i64 i.hi], .a [.int .i64 j.lo, .int .i64 j.hi]] (.t [.a [.int .i64 (muF i j).lo, .int .i64 (muF i j).hi], .c (.bool (muF i j).ok)]) := by
  refine ret_of_body (md := {}) Tryz.func81 (by kernel_rfl) rfl ?_
  simp only [Tryz.f81, List.map_cons, List.map_nil, List.length_cons, List.length_nil, Nat.zero_add, Nat.reduceAdd, Nat.reduceSub, List.reduceReplicate, List.cons_append, List.nil_append]
  refine pwx_sr 3 [] (by rfl) (fun K1 hK1 => ?_)
  simp (disch := omega) only [go_sem]
  refine hK1 _ ?_
  clear hK1 K1
  refine pwx_sr 0 [] (by rfl) (fun K2 hK2 => ?_)
  simp (disch := omega) only [go_sem]
  refine hK2 _ ?_
  clear hK2 K2
  refine pwp_seq ?_
  refine pwx_sr 1 [] (by rfl) (fun K3 hK3 => ?_)
  simp (disch := omega) only [go_sem]
  refine hK3 _ ?_
  clear hK3 K3
  refine pwp_block ?_
  refine pwp_loopF (false :: false :: true :: true :: true :: true :: true :: true :: false :: false :: false :: false :: false :: false :: false :: false :: false :: false :: false :: true :: true :: true :: false :: false :: false :: false :: false :: false :: false :: false :: false :: false :: false :: false :: false :: false :: false :: false :: false :: false :: false :: false :: false :: false :: false :: false :: false :: false :: false :: false :: false :: false :: false :: false :: false :: false :: []) 4 (fun M s => ∃ u : Nat, (u ≤ 2) ∧ (∀ k, k < 2 * u → (prs i j k).ok = true) ∧ 2 - u = M ∧ s = { slots := .j :: .j :: .e (.c (.ptr 0 0)) :: .e (.c (.ptr 1 0)) :: .e (.c (.ptr 2 0)) :: .e (.c (.bool false)) :: .e (.c (.int .i64 (mlo i j (2 * u)))) :: .e (.c (.int .i64 (mhi i j (2 * u)))) :: .j :: .j :: .j :: .j :: .j :: .j :: .j :: .j :: .j :: .j :: .j :: .e (.c (.sl 2 [.int .i64 i.lo, .int .i64 i.hi])) :: .e (.c (.int .i64 ((2 : Nat) : Int))) :: .e (.c (.int .i64 (u : Int))) :: .j :: .j :: .j :: .j :: .j :: .j :: .j :: .j :: .j :: .j :: .j :: .j :: .j :: .j :: .j :: .j :: .j :: .j :: .j :: .j :: .j :: .j :: .j :: .j :: .j :: .j :: .j :: .j :: .j :: .j :: .j :: .j :: .j :: .j :: [], st := [.live [.int .i64 i.lo, .int .i64 i.hi], .live [.int .i64 j.lo, .int .i64 j.hi], .live [.int .i64 0, .int .i64 0], .gone] }) (n := 2) rfl ?_ ?_ ?_
  · refine ⟨0, ?_, ?_, rfl, ?_⟩
    · omega
    · intro k h; omega
    · first | rfl | (simp only [St.cut, keep, if_true, if_false, Bool.false_eq_true, List.take_succ_cons, List.take_zero, List.take_nil]; try simp)
  · refine ⟨rfl, ?_, ?_⟩ <;> first | rfl | (simp [keep, PV.lt, PE.lt, PC.lt, Box.lt, ↓lC_lt]; done) | simp [keep, PV.lt, PE.lt, PC.lt, Box.lt, ↓lC_lt, ↓intC_lt, ↓ratC_lt, ↓u32s_lt]
  · rintro _ _ ⟨u, hu2, hk, rfl, rfl⟩
    obtain ⟨a1, a2⟩ := sel_bd hi u
    refine pwx_sr 0 [] (by rfl) (fun K4 hK4 => ?_)
    simp (disch := omega) only [go_sem]
    refine hK4 _ ?_
    clear hK4 K4
    refine pwp_seq ?_
    refine pwp_cond (b := _) (by rfl) (fun hb0 => ?_) (fun hb0 => ?_)
    · have hu : u < 2 := by have := of_decide_eq_true hb0; omega
      refine pwp_skip ?_
      refine n_then ?_
      refine pwp_seq ?_
      refine pwp_block ?_
      refine pwx_sr 0 [] (by rfl) (fun K5 hK5 => ?_)
      simp (disch := omega) only [go_sem, idx_iv]
      refine hK5 _ ?_
      clear hK5 K5
      refine pwx_sr 1 [] (by rfl) (fun K6 hK6 => ?_)
      simp (disch := omega) only [go_sem]
      refine hK6 _ ?_
      clear hK6 K6
      refine pwp_block ?_
      refine pwp_loopF (false :: false :: true :: true :: true :: true :: true :: true :: false :: true :: false :: false :: false :: false :: false :: false :: false :: false :: false :: true :: true :: true :: false :: false :: false :: false :: false :: false :: false :: true :: true :: true :: false :: false :: false :: false :: false :: false :: false :: false :: false :: false :: false :: false :: false :: false :: false :: false :: false :: false :: false :: false :: false :: false :: false :: false :: []) 5 (fun M s => ∃ v : Nat, (v ≤ 2) ∧ (∀ k, k < 2 * u + v → (prs i j k).ok = true) ∧ 2 - v = M ∧ s = { slots := .j :: .j :: .e (.c (.ptr 0 0)) :: .e (.c (.ptr 1 0)) :: .e (.c (.ptr 2 0)) :: .e (.c (.bool false)) :: .e (.c (.int .i64 (mlo i j (2 * u + v)))) :: .e (.c (.int .i64 (mhi i j (2 * u + v)))) :: .j :: .e (.c (.int .i64 (sel i u))) :: .j :: .j :: .j :: .j :: .j :: .j :: .j :: .j :: .j :: .e (.c (.sl 2 [.int .i64 i.lo, .int .i64 i.hi])) :: .e (.c (.int .i64 ((2 : Nat) : Int))) :: .e (.c (.int .i64 (u : Int))) :: .j :: .j :: .j :: .j :: .j :: .j :: .j :: .e (.c (.sl 2 [.int .i64 j.lo, .int .i64 j.hi])) :: .e (.c (.int .i64 ((2 : Nat) : Int))) :: .e (.c (.int .i64 (v : Int))) :: .j :: .j :: .j :: .j :: .j :: .j :: .j :: .j :: .j :: .j :: .j :: .j :: .j :: .j :: .j :: .j :: .j :: .j :: .j :: .j :: .j :: .j :: .j :: .j :: [], st := [.live [.int .i64 i.lo, .int .i64 i.hi], .live [.int .i64 j.lo, .int .i64 j.hi], .live [.int .i64 0, .int .i64 0], .gone, .gone] }) (n := 2) rfl ?_ ?_ ?_
      · refine ⟨0, ?_, ?_, rfl, ?_⟩
        · omega
        · exact hk
        · first | rfl | (simp only [St.cut, keep, if_true, if_false, Bool.false_eq_true, List.take_succ_cons, List.take_zero, List.take_nil]; try simp)
      · refine ⟨rfl, ?_, ?_⟩ <;> first | rfl | (simp [keep, PV.lt, PE.lt, PC.lt, Box.lt, ↓lC_lt]; done) | simp [keep, PV.lt, PE.lt, PC.lt, Box.lt, ↓lC_lt, ↓intC_lt, ↓ratC_lt, ↓u32s_lt]
      · rintro _ _ ⟨v, hv2, hk2, rfl, rfl⟩
        obtain ⟨b1, b2⟩ := sel_bd hj v
        refine pwx_sr 0 [] (by rfl) (fun K7 hK7 => ?_)
        simp (disch := omega) only [go_sem]
        refine hK7 _ ?_
        clear hK7 K7
        refine pwp_seq ?_
        refine pwp_cond (b := _) (by rfl) (fun hb1 => ?_) (fun hb1 => ?_)
        · have hv : v < 2 := by have := of_decide_eq_true hb1; omega
          refine pwp_skip ?_
          refine n_then ?_
          refine pwp_seq ?_
          refine pwp_block ?_
          refine pwx_sr 0 [] (by rfl) (fun K8 hK8 => ?_)
          simp (disch := omega) only [go_sem, idx_iv]
          refine hK8 _ ?_
          clear hK8 K8
          refine pwx_sr 0 [] (by rfl) (fun K9 hK9 => ?_)
          refine rgnX_take 3 (fun K10 hK10 => ?_)
          simp (disch := omega) only [go_sem]
          refine ⟨_, c_filter_scaled _ _ (by omega) (by omega) (by omega) (by omega), ?_⟩
          refine hK10 _ ?_
          simp (disch := omega) only [go_sem]
          refine hK9 _ ?_
          clear hK10 K10 hK9 K9
          refine pwp_seq ?_
          refine pwx_sr 0 [] (by rfl) (fun K11 hK11 => ?_)
          simp (disch := omega) only [go_sem]
          refine hK11 _ ?_
          clear hK11 K11
          refine pwp_cond (b := _) (by rfl) (fun hb2 => ?_) (fun hb2 => ?_)
          · replace hb2 := not_t hb2
            refine pwx_sr 0 [] (by rfl) (fun K12 hK12 => ?_)
            simp (disch := omega) only [go_sem]
            refine hK12 _ ?_
            clear hK12 K12
            refine pwp_ret ?_
            refine r_then ?_
            refine r_block ?_
            refine r_then ?_
            refine r_then ?_
            refine r_block ?_
            refine r_block ?_
            refine r_then ?_
            refine r_then ?_
            refine r_block ?_
            refine r_then ?_
            refine ⟨Or.inr rfl, ?_⟩
            simp (disch := omega) only [go_sem]
            rw [muF_n hu hv hb2]; exact ⟨⟨rfl, rfl⟩, rfl⟩
          · replace hb2 := not_f hb2
            refine pwp_skip ?_
            refine n_then ?_
            refine pwx_region 0 [] (by rfl) (fun K13 hK13 => ?_)
            simp (disch := omega) only [go_sem]
            refine hK13 _ ?_
            clear hK13 K13
            refine n_block ?_
            refine n_then ?_
            refine pwx_region 0 [] (by rfl) (fun K14 hK14 => ?_)
            simp (disch := omega) only [go_sem]
            refine hK14 _ ?_
            clear hK14 K14
            refine n_then ?_
            rw [← mlo_uv hu hv, ← mhi_uv hu hv]
            refine ⟨_, ?hdec, ⟨v + 1, ?hf0, ?hf1, rfl, ?heq⟩, ?hok⟩
            case heq => first | rfl | (simp only [St.cut, keep, if_true, if_false, Bool.false_eq_true, List.take_succ_cons, List.take_zero, List.take_nil]; try simp)
            case hf0 => omega
            case hf1 => exact prs_step hu hv hk2 hb2
            case hdec => omega
            case hok => refine ⟨rfl, ?_, ?_⟩ <;> first | rfl | (simp [keep, PV.lt, PE.lt, PC.lt, Box.lt, ↓lC_lt]; done) | simp [keep, PV.lt, PE.lt, PC.lt, Box.lt, ↓lC_lt, ↓intC_lt, ↓ratC_lt, ↓u32s_lt]
        · obtain rfl : v = 2 := by have := of_decide_eq_false hb1; omega
          refine pwp_exit ?_
          refine e_then ?_
          refine e_then ?_
          refine e_here ?_
          refine n_block ?_
          refine n_then ?_
          refine pwx_region 0 [] (by rfl) (fun K15 hK15 => ?_)
          simp (disch := omega) only [go_sem]
          refine hK15 _ ?_
          clear hK15 K15
          refine n_then ?_
          refine ⟨_, ?hdec, ⟨u + 1, ?hf0, ?hf1, rfl, ?heq⟩, ?hok⟩
          case heq => first | rfl | (simp only [St.cut, keep, if_true, if_false, Bool.false_eq_true, List.take_succ_cons, List.take_zero, List.take_nil]; try simp)
          case hf0 => omega
          case hf1 => exact hk2
          case hdec => omega
          case hok => refine ⟨rfl, ?_, ?_⟩ <;> first | rfl | (simp [keep, PV.lt, PE.lt, PC.lt, Box.lt, ↓lC_lt]; done) | simp [keep, PV.lt, PE.lt, PC.lt, Box.lt, ↓lC_lt, ↓intC_lt, ↓ratC_lt, ↓u32s_lt]
    · obtain rfl : u = 2 := by have := of_decide_eq_false hb0; omega
      refine pwp_exit ?_
      refine e_then ?_
      refine e_then ?_
      refine e_here ?_
      refine n_then ?_
      refine pwx_sr 0 [] (by rfl) (fun K16 hK16 => ?_)
      simp (disch := omega) only [go_sem]
      refine hK16 _ ?_
      clear hK16 K16
      refine pwp_ret ?_
      refine ⟨Or.inr rfl, ?_⟩
      simp (disch := omega) only [go_sem]
      rw [muF_y hk]; exact ⟨⟨rfl, rfl⟩, rfl⟩

end Go.Proofs.YtdojhoegildiaaaGreat

namespace Go.PL
open Go.RL
/-- Root -/
def rooF (a b c : Rat) : Iv :=
  if (frF a).ok = false ∨ b = 0 then frF a else
  if (frF b).ok = false ∨ (frF c).ok = false ∨ c < 0 then Iv.no else
  if (sqF (frF c)).ok = false then Iv.no else
  if (muF (frF b) (sqF (frF c))).ok = false then Iv.no else
  adF (frF a) (muF (frF b) (sqF (frF c)))
variable {a b c : Rat}
theorem rooF_1 (h : (frF a).ok = false ∨ b = 0) : rooF a b c = frF a := if_pos h
theorem rooF_2 (h : ¬ ((frF a).ok = false ∨ b = 0)) (h' : (frF b).ok = false ∨ (frF c).ok = false ∨ c < 0) : rooF a b c = Iv.no := by
  unfold rooF; rw [if_neg h, if_pos h']
theorem rooF_3 (h : ¬ ((frF a).ok = false ∨ b = 0)) (h' : ¬ ((frF b).ok = false ∨ (frF c).ok = false ∨ c < 0)) (h2 : (sqF (frF c)).ok = false) : rooF a b c = Iv.no := by
  unfold rooF; rw [if_neg h, if_neg h', if_pos h2]
theorem rooF_4 (h : ¬ ((frF a).ok = false ∨ b = 0)) (h' : ¬ ((frF b).ok = false ∨ (frF c).ok = false ∨ c < 0)) (h2 : (sqF (frF c)).ok = true) (h3 : (muF (frF b) (sqF (frF c))).ok = false) : rooF a b c = Iv.no := by
  unfold rooF; rw [if_neg h, if_neg h', if_neg (by rw [h2]; simp), if_pos h3]
theorem rooF_5 (h : ¬ ((frF a).ok = false ∨ b = 0)) (h' : ¬ ((frF b).ok = false ∨ (frF c).ok = false ∨ c < 0)) (h2 : (sqF (frF c)).ok = true) (h3 : (muF (frF b) (sqF (frF c))).ok = true) : rooF a b c = adF (frF a) (muF (frF b) (sqF (frF c))) := by
  unfold rooF; rw [if_neg h, if_neg h', if_neg (by rw [h2]; simp), if_neg (by rw [h3]; simp)]
theorem rooF_bd (a b c : Rat) : (rooF a b c).Bd := by
  unfold rooF
  repeat' split
  · exact frF_bd _
  · exact Iv.Bd.no
  · exact Iv.Bd.no
  · exact Iv.Bd.no
  · exact adF_bd (frF_bd _) (muF_bd _ _)
theorem inI_eqv {lo hi : Int} {x y : Re} (h : eqv x y) (h' : inI lo hi x) : inI lo hi y :=
  ⟨(sgn_eqv (eqv_sub (eqv_mul (eqv_refl _) h) (eqv_refl _))) ▸ h'.1, (sgn_eqv (eqv_sub (eqv_refl _) (eqv_mul (eqv_refl _) h))) ▸ h'.2⟩
theorem v2_b0 (a c : Rat) : v2 a 0 c = Re.of a := by
  apply Re.ext; intro n
  show a + 0 * (rt c).s n = a
  grind
theorem bfalse {b : Bool} (h : ¬ b = false) : b = true := by cases b <;> simp_all
/-- What the interval of a root contains. -/
theorem rooF_ok (h : (rooF a b c).ok = true) : inI (rooF a b c).lo (rooF a b c).hi (v2 a b c) := by
  by_cases h1 : (frF a).ok = false ∨ b = 0
  · rw [rooF_1 h1] at h ⊢
    rcases h1 with h1 | rfl
    · rw [h] at h1; cases h1
    · rw [v2_b0]; exact frF_ok h
  · by_cases h2 : (frF b).ok = false ∨ (frF c).ok = false ∨ c < 0
    · rw [rooF_2 h1 h2] at h; cases h
    · rcases h3 : (sqF (frF c)).ok with _ | _
      · rw [rooF_3 h1 h2 h3] at h; cases h
      · rcases h4 : (muF (frF b) (sqF (frF c))).ok with _ | _
        · rw [rooF_4 h1 h2 h3 h4] at h; cases h
        · rw [rooF_5 h1 h2 h3 h4] at h ⊢
          simp only [not_or] at h1 h2
          have a1 := bfalse h1.1; have b1 := bfalse h2.1; have c1 := bfalse h2.2.1
          have c0 : 0 ≤ c := Rat.not_lt.1 h2.2.2
          exact adF_ok h (frF_ok a1) (muF_ok h4 (frF_ok b1) (sqF_ok c0 h3 (frF_ok c1)))
end Go.PL

set_option linter.unusedSimpArgs false
set_option linter.unusedVariables false
set_option maxRecDepth 20000
namespace Go.Proofs.YtdojhoegildiaaaGreat
open Go Go.PL Go.RL
set_option maxHeartbeats 4000000 in
theorem c_filter_Root (a b c : Rat) {k l m : Nat} [SzR a k] [SzR b l] [SzR c m] (hk : k + l + m ≤ 20000) :
    Ret Tryz.prog 94 [.a (ratC (a) ++ (ratC (b) ++ ratC (c)))] (.t [.a [.int .i64 (rooF a b c).lo, .int .i64 (rooF a b c).hi], .c (.bool (rooF a b c).ok)]) := by
  refine ret_of_body (md := {}) Tryz.func94 (by kernel_rfl) rfl ?_
  simp only [Tryz.f94, List.map_cons, List.map_nil, List.length_cons, List.length_nil, Nat.zero_add, Nat.reduceAdd, Nat.reduceSub, List.reduceReplicate, List.cons_append, List.nil_append]
  refine pwx_sr 2 [] (by rfl) (fun K1 hK1 => ?_)
  simp (disch := omega) only [go_sem]
  refine hK1 _ ?_
  clear hK1 K1
  refine pwx_sr 1 [] (by rfl) (fun K2 hK2 => ?_)
  refine rgnX_take 3 (fun K3 hK3 => ?_)
  simp (disch := omega) only [go_sem]
  refine ⟨_, c_filter_FromRat _ (by omega), ?_⟩
  refine hK3 _ ?_
  simp (disch := omega) only [go_sem]
  refine hK2 _ ?_
  clear hK3 K3 hK2 K2
  refine pwp_seq ?_
  rcases h1 : (frF a).ok with _ | _
  · refine pwx_sr 0 [some 15, some 16, some 17, some 18, some 19, some 20, some 21, some 22] (by rfl) (fun K4 hK4 => ?_)
    refine rgnX_take 6 (fun K5 hK5 => ?_)
    simp (disch := omega) only [go_sem, h1]
    first | refine ⟨_, c_rational_Sign _, ?_⟩ | skip
    refine hK5 _ ?_
    simp (disch := omega) only [go_sem, h1]
    refine hK4 _ ?_
    clear hK5 K5 hK4 K4
    refine pwp_cond (b := true) (by rfl) (fun _ => ?_) (fun h => nomatch h)
    refine pwx_sr 0 [] (by rfl) (fun K6 hK6 => ?_)
    simp (disch := omega) only [go_sem]
    refine hK6 _ ?_
    clear hK6 K6
    refine pwp_ret ?_
    refine r_then ?_
    refine ⟨Or.inr rfl, ?_⟩
    simp (disch := omega) only [go_sem]
    rw [rooF_1 (Or.inl h1)]; exact ⟨⟨rfl, rfl⟩, h1⟩
  · refine pwx_sr 0 [some 15, some 16, some 17, some 18, some 19, some 20, some 21, some 22] (by rfl) (fun K7 hK7 => ?_)
    refine rgnX_take 6 (fun K8 hK8 => ?_)
    simp (disch := omega) only [go_sem, h1]
    first | refine ⟨_, c_rational_Sign _, ?_⟩ | skip
    refine hK8 _ ?_
    simp (disch := omega) only [go_sem, h1]
    refine hK7 _ ?_
    clear hK8 K8 hK7 K7
    refine pwp_cond (b := _) (by rfl) (fun hb1 => ?_) (fun hb1 => ?_)
    · first | replace hb1 := of_decide_eq_true hb1 | replace hb1 := of_decide_eq_false hb1 | skip
      refine pwx_sr 0 [] (by rfl) (fun K9 hK9 => ?_)
      simp (disch := omega) only [go_sem]
      refine hK9 _ ?_
      clear hK9 K9
      refine pwp_ret ?_
      refine r_then ?_
      refine ⟨Or.inr rfl, ?_⟩
      simp (disch := omega) only [go_sem]
      rw [rooF_1 (Or.inr (by assumption))]; exact ⟨⟨rfl, rfl⟩, h1⟩
    · first | replace hb1 := of_decide_eq_true hb1 | replace hb1 := of_decide_eq_false hb1 | skip
      refine pwp_skip ?_
      refine n_then ?_
      refine pwx_sr 1 [] (by rfl) (fun K10 hK10 => ?_)
      refine rgnX_take 3 (fun K11 hK11 => ?_)
      simp (disch := omega) only [go_sem]
      refine ⟨_, c_filter_FromRat _ (by omega), ?_⟩
      refine hK11 _ ?_
      simp (disch := omega) only [go_sem]
      refine hK10 _ ?_
      clear hK11 K11 hK10 K10
      refine pwx_sr 1 [] (by rfl) (fun K12 hK12 => ?_)
      refine rgnX_take 3 (fun K13 hK13 => ?_)
      simp (disch := omega) only [go_sem]
      refine ⟨_, c_filter_FromRat _ (by omega), ?_⟩
      refine hK13 _ ?_
      simp (disch := omega) only [go_sem]
      refine hK12 _ ?_
      clear hK13 K13 hK12 K12
      refine pwp_seq ?_
      rcases h2 : (frF b).ok with _ | _ <;> rcases h3 : (frF c).ok with _ | _
      · refine pwx_sr 0 [some 37, some 38, some 39, some 40, some 41, some 42, some 43, some 44, some 45, some 46, some 47, some 48] (by rfl) (fun K14 hK14 => ?_)
        refine rgnX_take 10 (fun K15 hK15 => ?_)
        simp (disch := omega) only [go_sem, h2, h3]
        first | refine ⟨_, c_rational_Sign _, ?_⟩ | skip
        refine hK15 _ ?_
        simp (disch := omega) only [go_sem, h2, h3]
        refine hK14 _ ?_
        clear hK15 K15 hK14 K14
        refine pwp_cond (b := true) (by rfl) (fun _ => ?_) (fun h => nomatch h)
        refine pwx_sr 0 [] (by rfl) (fun K16 hK16 => ?_)
        simp (disch := omega) only [go_sem]
        refine hK16 _ ?_
        clear hK16 K16
        refine pwp_ret ?_
        refine r_then ?_
        refine ⟨Or.inr rfl, ?_⟩
        simp (disch := omega) only [go_sem]
        rw [rooF_2 (by simp_all) (by simp_all)]; exact ⟨⟨rfl, rfl⟩, rfl⟩
      · refine pwx_sr 0 [some 37, some 38, some 39, some 40, some 41, some 42, some 43, some 44, some 45, some 46, some 47, some 48] (by rfl) (fun K17 hK17 => ?_)
        refine rgnX_take 10 (fun K18 hK18 => ?_)
        simp (disch := omega) only [go_sem, h2, h3]
        first | refine ⟨_, c_rational_Sign _, ?_⟩ | skip
        refine hK18 _ ?_
        simp (disch := omega) only [go_sem, h2, h3]
        refine hK17 _ ?_
        clear hK18 K18 hK17 K17
        refine pwp_cond (b := true) (by rfl) (fun _ => ?_) (fun h => nomatch h)
        refine pwx_sr 0 [] (by rfl) (fun K19 hK19 => ?_)
        simp (disch := omega) only [go_sem]
        refine hK19 _ ?_
        clear hK19 K19
        refine pwp_ret ?_
        refine r_then ?_
        refine ⟨Or.inr rfl, ?_⟩
        simp (disch := omega) only [go_sem]
        rw [rooF_2 (by simp_all) (by simp_all)]; exact ⟨⟨rfl, rfl⟩, rfl⟩
      · refine pwx_sr 0 [some 37, some 38, some 39, some 40, some 41, some 42, some 43, some 44, some 45, some 46, some 47, some 48] (by rfl) (fun K20 hK20 => ?_)
        refine rgnX_take 10 (fun K21 hK21 => ?_)
        simp (disch := omega) only [go_sem, h2, h3]
        first | refine ⟨_, c_rational_Sign _, ?_⟩ | skip
        refine hK21 _ ?_
        simp (disch := omega) only [go_sem, h2, h3]
        refine hK20 _ ?_
        clear hK21 K21 hK20 K20
        refine pwp_cond (b := true) (by rfl) (fun _ => ?_) (fun h => nomatch h)
        refine pwx_sr 0 [] (by rfl) (fun K22 hK22 => ?_)
        simp (disch := omega) only [go_sem]
        refine hK22 _ ?_
        clear hK22 K22
        refine pwp_ret ?_
        refine r_then ?_
        refine ⟨Or.inr rfl, ?_⟩
        simp (disch := omega) only [go_sem]
        rw [rooF_2 (by simp_all) (by simp_all)]; exact ⟨⟨rfl, rfl⟩, rfl⟩
      · refine pwx_sr 0 [some 37, some 38, some 39, some 40, some 41, some 42, some 43, some 44, some 45, some 46, some 47, some 48] (by rfl) (fun K23 hK23 => ?_)
        refine rgnX_take 10 (fun K24 hK24 => ?_)
        simp (disch := omega) only [go_sem, h2, h3]
        first | refine ⟨_, c_rational_Sign _, ?_⟩ | skip
        refine hK24 _ ?_
        simp (disch := omega) only [go_sem, h2, h3]
        refine hK23 _ ?_
        clear hK24 K24 hK23 K23
        refine pwp_cond (b := _) (by rfl) (fun hb5 => ?_) (fun hb5 => ?_)
        · first | replace hb5 := of_decide_eq_true hb5 | replace hb5 := of_decide_eq_false hb5 | skip
          refine pwx_sr 0 [] (by rfl) (fun K25 hK25 => ?_)
          simp (disch := omega) only [go_sem]
          refine hK25 _ ?_
          clear hK25 K25
          refine pwp_ret ?_
          refine r_then ?_
          refine ⟨Or.inr rfl, ?_⟩
          simp (disch := omega) only [go_sem]
          rw [rooF_2 (by simp_all) (by simp_all)]; exact ⟨⟨rfl, rfl⟩, rfl⟩
        · first | replace hb5 := of_decide_eq_true hb5 | replace hb5 := of_decide_eq_false hb5 | skip
          refine pwp_skip ?_
          refine n_then ?_
          refine pwp_seq ?_
          refine pwx_sr 0 [] (by rfl) (fun K26 hK26 => ?_)
          refine rgnX_take 2 (fun K27 hK27 => ?_)
          simp (disch := omega) only [go_sem]
          refine ⟨_, c_filter_Sqrt _ (frF_bd _), ?_⟩
          refine hK27 _ ?_
          simp (disch := omega) only [go_sem]
          refine hK26 _ ?_
          clear hK27 K27 hK26 K26
          rcases h4 : (sqF (frF c)).ok with _ | _
          · refine pwx_sr 0 [] (by rfl) (fun K28 hK28 => ?_)
            simp (disch := omega) only [go_sem, h4]
            refine hK28 _ ?_
            clear hK28 K28
            refine pwp_cond (b := true) (by rfl) (fun _ => ?_) (fun h => nomatch h)
            refine pwx_sr 0 [] (by rfl) (fun K29 hK29 => ?_)
            simp (disch := omega) only [go_sem]
            refine hK29 _ ?_
            clear hK29 K29
            refine pwp_ret ?_
            refine r_then ?_
            refine ⟨Or.inr rfl, ?_⟩
            simp (disch := omega) only [go_sem]
            rw [rooF_3 (by simp_all) (by simp_all) h4]; exact ⟨⟨rfl, rfl⟩, rfl⟩
          · refine pwx_sr 0 [] (by rfl) (fun K30 hK30 => ?_)
            simp (disch := omega) only [go_sem, h4]
            refine hK30 _ ?_
            clear hK30 K30
            refine pwp_cond (b := false) (by rfl) (fun h => nomatch h) (fun _ => ?_)
            refine pwp_skip ?_
            refine n_then ?_
            refine pwp_seq ?_
            refine pwx_sr 0 [] (by rfl) (fun K31 hK31 => ?_)
            refine rgnX_take 3 (fun K32 hK32 => ?_)
            simp (disch := omega) only [go_sem]
            refine ⟨_, c_filter_Mul _ _ (frF_bd _) (sqF_bd (frF_bd _)), ?_⟩
            refine hK32 _ ?_
            simp (disch := omega) only [go_sem]
            refine hK31 _ ?_
            clear hK32 K32 hK31 K31
            rcases h5 : (muF (frF b) (sqF (frF c))).ok with _ | _
            · refine pwx_sr 0 [] (by rfl) (fun K33 hK33 => ?_)
              simp (disch := omega) only [go_sem, h5]
              refine hK33 _ ?_
              clear hK33 K33
              refine pwp_cond (b := true) (by rfl) (fun _ => ?_) (fun h => nomatch h)
              refine pwx_sr 0 [] (by rfl) (fun K34 hK34 => ?_)
              simp (disch := omega) only [go_sem]
              refine hK34 _ ?_
              clear hK34 K34
              refine pwp_ret ?_
              refine r_then ?_
              refine ⟨Or.inr rfl, ?_⟩
              simp (disch := omega) only [go_sem]
              rw [rooF_4 (by simp_all) (by simp_all) h4 h5]; exact ⟨⟨rfl, rfl⟩, rfl⟩
            · refine pwx_sr 0 [] (by rfl) (fun K35 hK35 => ?_)
              simp (disch := omega) only [go_sem, h5]
              refine hK35 _ ?_
              clear hK35 K35
              refine pwp_cond (b := false) (by rfl) (fun h => nomatch h) (fun _ => ?_)
              refine pwp_skip ?_
              refine n_then ?_
              refine pwx_sr 0 [] (by rfl) (fun K36 hK36 => ?_)
              refine rgnX_take 3 (fun K37 hK37 => ?_)
              simp (disch := omega) only [go_sem]
              refine ⟨_, c_filter_Add _ _ (frF_bd _) (muF_bd _ _), ?_⟩
              refine hK37 _ ?_
              simp (disch := omega) only [go_sem]
              refine hK36 _ ?_
              clear hK37 K37 hK36 K36
              refine pwp_ret ?_
              refine ⟨Or.inr rfl, ?_⟩
              simp (disch := omega) only [go_sem]
              rw [rooF_5 (by simp_all) (by simp_all) h4 h5]; exact ⟨⟨rfl, rfl⟩, rfl⟩

end Go.Proofs.YtdojhoegildiaaaGreat

namespace Go.PL
open Go.RowKit
section
variable {P : Program} {Q : Exit → St → Prop}
theorem retW_of_bodyP {f : FuncId} {fn : Func} {c : Code} (hf : P.funcs[f]? = some fn) (hname : (fn.name == "runtime.NumGoroutine") = false) (hb : fn.body = some c) {off : Nat} {rest : List PE} {cs : List PC} {md : Md} (hfz : md.fz = false)
    (hrest : rest.all PE.im = true) (hcs : cs.all PC.im = true) (T : PV → List PC → Prop)
    (h : PWp P md c { slots := (.e (.c (.ptr 0 off))) :: (rest.map .e ++ List.replicate (fn.ntmps - (rest.length + 1)) (.t [])), st := [.live cs] } fun e s => (e = .normal ∨ e = .ret) ∧ ∃ l, resAll P s fn.results.toList = some l ∧ l.all PE.im = true ∧ ∃ cs', cs'.all PC.im = true ∧ T (pack (l.map PE.norm)) cs' ∧ ∃ τ, s.st = .live cs' :: τ)
    (id : Nat) (σ : List Box) (hid : σ[id]? = some (.live cs)) : RetM P f (.c (.ptr id off) :: rest) σ fun r' σ' => ∃ cs', T r' cs' ∧ σ' = σ.set id (.live cs') := by
  refine ⟨⟨fn, hf, hname, by rw [hb]; rfl⟩, fun G bl w vs hs hvs => ?_⟩
  refine calls_of_wp hf hb ?_
  have hidl : id < σ.length := there_lt ⟨_, hid, rfl⟩
  obtain ⟨arr, e, hheap, hcells, hgn⟩ := hs.live id cs hid
  let E : Env := { w0 := w, G0 := G, bl0 := fun _ => bl id, n0 := 1 }
  have hlen : vs.size = rest.length + 1 := by have := hvs.length; simpa using this
  have hthere : ∀ j, There [Box.live cs] j → j = 0 := by
    rintro j ⟨b, hb, _⟩
    cases j with
    | zero => rfl
    | succ j => simp at hb
  have hth0 : There [Box.live cs] 0 := ⟨_, rfl, rfl⟩
  obtain ⟨v0, vt, hvl, hv0, hvt⟩ : ∃ v0 vt, vs.toList = v0 :: vt ∧ RepE G bl (There σ) v0 (.c (.ptr id off)) ∧ All2 (RepE G bl (There σ)) vt rest := by
    generalize vs.toList = l at hvs
    cases hvs with
    | cons h1 h2 => exact ⟨_, _, rfl, h1, h2⟩
  have rel : Rel E { tmps := vs ++ Array.replicate (fn.ntmps - vs.size) undef, defers := [] } w { slots := (.e (.c (.ptr 0 off))) :: (rest.map .e ++ List.replicate (fn.ntmps - (rest.length + 1)) (.t [])), st := [.live cs] } G (fun _ => bl id) := by
    refine ⟨⟨?_, rfl, ⟨hs.agree, fun j ds h => ?_, fun j ds h => ?_, fun j j' ds ds' h h' _ => ?_⟩⟩, ⟨rfl, rfl, rfl, Nat.le_refl _, fun k _ _ => rfl, GLe.refl G, fun b o u h => .inl h, fun _ _ => rfl, fun j ds hj h => ?_, Nat.le_refl _⟩⟩
    · simp only [Array.toList_append, Array.toList_replicate, hlen, hvl, List.cons_append]
      refine .cons ?_ (All2.append (All2.map_right ?_) (All2.replicate _ undef_rep))
      · obtain ⟨_, e2⟩ := hv0
        exact ⟨hth0, e2⟩
      · exact hvt.im_of hrest
    · cases j with
      | zero =>
        simp at h; subst h
        exact ⟨arr, e, hheap, (hcells.irep_of_im hcs).mono fun _ _ => RepC.of_irep, hgn⟩
      | succ j => simp at h
    · cases j with
      | zero => simp at h
      | succ j => simp at h
    · have h1 := hthere j ⟨_, h, rfl⟩
      have h2 := hthere j' ⟨_, h', rfl⟩
      rw [h1, h2]
    · have h1 := hthere j ⟨_, h, rfl⟩
      have hj' : 1 ≤ j := hj
      omega
  refine wp_mono (h E _ w G (fun _ => bl id) (fun q => by rw [hfz] at q; cases q) rel) fun e' a' w' hp => ?_
  obtain ⟨s', G', bl', ⟨he, l, hl, him, cs', hcs', hT, τ, hτ⟩, rel'⟩ := hp
  obtain ⟨us, g1, g2⟩ := run_results rel' hl
  have g3 := run_results' g1
  have hx := rel'.ext
  have hb0 : bl' 0 = bl id := hx.same 0 (by show 0 < 1; omega)
  have hlive := rel'.rel.st.live 0 cs' (by rw [hτ]; rfl)
  obtain ⟨arr', e2, hheap', hcells', hgn'⟩ := hlive
  rw [hb0] at hheap' hgn'
  have gnone : ∀ b, b < w.heap.size → (∀ o, G b o = none) → ∀ o, G' b o = none := fun b hb hg o => by
    cases hgo : G' b o with
    | none => rfl
    | some u =>
      rcases hx.gnew b o u hgo with q | q
      · have q' : G b o = some u := q
        rw [hg o] at q'; simp at q'
      · exact absurd hb (Nat.not_lt.2 q)
  have hrel : RelS G' bl w' (σ.set id (.live cs')) := by
    refine ⟨rel'.rel.st.agree, fun j ds hj => ?_, fun j ds hj => ?_, fun j j' ds ds' hj hj' hbb => ?_⟩
    · by_cases hji : id = j
      · subst hji
        rw [List.getElem?_set_self hidl, Option.some.injEq, Box.live.injEq] at hj
        subst hj
        exact ⟨arr', e2, hheap', (hcells'.irep_of_im hcs').mono fun _ _ => RepC.of_irep, hgn'⟩
      · rw [List.getElem?_set_ne hji] at hj
        obtain ⟨arr1, e1, k1, k2, k3⟩ := hs.live j ds hj
        have hlt := heap_lt k1
        refine ⟨arr1, e1, ?_, ?_, gnone _ hlt k3⟩
        · rw [hx.block (bl j) hlt fun i hi hh => hji (hs.inj id j cs ds hid hj hh)]; exact k1
        · exact k2.mono fun u p => RepC.mono hx.gle (fun _ _ => rfl) fun i hi => there_set hidl hi
    · by_cases hji : id = j
      · subst hji
        rw [List.getElem?_set_self hidl, Option.some.injEq] at hj
        cases hj
      · rw [List.getElem?_set_ne hji] at hj
        obtain ⟨us1, k1, k2⟩ := hs.frz j ds hj
        exact ⟨us1, fun i hi => hx.gle _ _ _ (k1 i hi), fun i hi => IRep.mono hx.gle (k2 i hi)⟩
    · have back : ∀ {i : Nat} {xs : List PC}, (σ.set id (.live cs'))[i]? = some (.live xs) → ∃ ys, σ[i]? = some (.live ys) := fun {i xs} hi => by
        by_cases hii : id = i
        · subst hii; exact ⟨cs, hid⟩
        · rw [List.getElem?_set_ne hii] at hi; exact ⟨xs, hi⟩
      obtain ⟨y1, q1⟩ := back hj
      obtain ⟨y2, q2⟩ := back hj'
      exact hs.inj j j' y1 y2 q1 q2 hbb
  have fin : ∃ v, (results fn a'.tmps).run P w' = .ok v w' ∧ ∃ v' r' σ' G'' bl'', Ending.returned v = .returned v' ∧ (∃ ds, T r' ds ∧ σ' = σ.set id (.live ds)) ∧ RepV G'' bl'' (There σ') v' r' ∧ RelS G'' bl'' w' σ' ∧ (∀ j, There σ j → There σ' j) ∧ σ.length ≤ σ'.length ∧
      (∀ j, j < σ.length → bl'' j = bl j) ∧ (∀ j ds, σ.length ≤ j → σ'[j]? = some (.live ds) → w.heap.size ≤ bl'' j) ∧ (∀ j ds, σ'[j]? = some (.live ds) → j < σ.length → ∃ ds', σ[j]? = some (.live ds')) ∧
      GLe G G'' ∧ (∀ b o u, G'' b o = some u → G b o = some u ∨ w.heap.size ≤ b) ∧ w'.os = w.os ∧ w'.tape = w.tape ∧ w'.output = w.output ∧ w.heap.size ≤ w'.heap.size ∧
      ∀ k, k < w.heap.size → (∀ j ds, σ[j]? = some (.live ds) → bl j ≠ k) → w'.heap[k]? = w.heap[k]? := by
    refine ⟨_, g3, packV us, pack (l.map PE.norm), _, G', bl, rfl, ⟨_, hT, rfl⟩, ?_, hrel, fun j hj => there_set hidl hj, by simp, fun _ _ => rfl, fun j ds hj h2 => ?_, fun j ds hj _ => ?_, hx.gle, hx.gnew, hx.os, hx.tape, hx.output, hx.size, fun k hk hh => ?_⟩
    · exact pack_rep (All2.normE (g2.of_im him))
    · have := there_lt (σ := σ.set id (.live cs')) ⟨_, h2, rfl⟩
      simp at this; omega
    · by_cases hji : id = j
      · subst hji; exact ⟨cs, hid⟩
      · rw [List.getElem?_set_ne hji] at hj; exact ⟨ds, hj⟩
    · exact hx.block k hk fun i hi => hh id cs hid
  rcases he with rfl | rfl
  · exact ⟨rel'.rel.defers, fin⟩
  · exact ⟨rel'.rel.defers, fin⟩
theorem retW_of_M {P : Program} {f : FuncId} {args : List PE} {id : Nat} {cs cs' : List PC} {r : PV} (h : ∀ σ : List Box, σ[id]? = some (.live cs) → RetM P f args σ fun r' σ' => ∃ ds, (r' = r ∧ ds = cs') ∧ σ' = σ.set id (.live ds)) : RetW P f args id cs r cs' := fun σ hs => by
  have e : (fun (r' : PV) (σ' : List Box) => ∃ ds, (r' = r ∧ ds = cs') ∧ σ' = σ.set id (.live ds)) = fun r' σ' => r' = r ∧ σ' = σ.set id (.live cs') := by
    funext r' σ'
    refine propext ⟨?_, ?_⟩
    · rintro ⟨_, ⟨rfl, rfl⟩, rfl⟩; exact ⟨rfl, rfl⟩
    · rintro ⟨rfl, rfl⟩; exact ⟨_, ⟨rfl, rfl⟩, rfl⟩
  rw [← e]; exact h σ hs
end
end Go.PL

set_option linter.unusedSimpArgs false
set_option linter.unusedVariables false
set_option maxRecDepth 20000
namespace Go.Proofs.YtdojhoegildiaaaGreat
open Go Go.PL Go.RL
set_option maxHeartbeats 4000000 in
theorem w_known_with (k b : Bool) (i : Iv) (id : Nat) (σ : List Box) (hid : σ[id]? = some (.live ([.bool k]))) :
    RetM Tryz.prog 78 (.c (.ptr id 0) :: [.a [.int .i64 i.lo, .int .i64 i.hi], .c (.bool b)]) σ fun r' σ' => ∃ cs', (fun r' ds => r' = .e (.a [.int .i64 i.lo, .int .i64 i.hi]) ∧ ds = [.bool (k && b)]) r' cs' ∧ σ' = σ.set id (.live cs') := by
  refine retW_of_bodyP (md := { fz := false }) Tryz.func78 (by kernel_rfl) rfl rfl rfl (rfl) (fun r' ds => r' = .e (.a [.int .i64 i.lo, .int .i64 i.hi]) ∧ ds = [.bool (k && b)]) ?_ id σ hid
  simp only [Tryz.f78, List.map_cons, List.map_nil, List.length_cons, List.length_nil, Nat.zero_add, Nat.reduceAdd, Nat.reduceSub, List.reduceReplicate, List.cons_append, List.nil_append]
  refine pwx_sr 2 [] (by rfl) (fun K1 hK1 => ?_)
  simp (disch := omega) only [go_sem]
  refine hK1 _ ?_
  clear hK1 K1
  rcases k with _ | _
  · refine pwx_sr 0 [some 7, some 8, some 9, some 10, some 11, some 12, some 13, some 14, some 15, some 16, none] (by rfl) (fun K2 hK2 => ?_)
    simp (disch := omega) only [go_sem]
    refine hK2 _ ?_
    clear hK2 K2
    refine pwx_sr 0 [] (by rfl) (fun K3 hK3 => ?_)
    simp (disch := omega) only [go_sem]
    refine hK3 _ ?_
    clear hK3 K3
    refine pwp_ret ?_
    refine ⟨Or.inr rfl, _, rfl, rfl, _, rfl, ?_, _, rfl⟩
    exact ⟨by kernel_rfl, rfl⟩
  · refine pwx_sr 0 [some 7, some 8, some 9, some 10, some 11, some 12, some 13, some 14, some 15, some 16, none] (by rfl) (fun K4 hK4 => ?_)
    simp (disch := omega) only [go_sem]
    refine hK4 _ ?_
    clear hK4 K4
    refine pwx_sr 0 [] (by rfl) (fun K5 hK5 => ?_)
    simp (disch := omega) only [go_sem]
    refine hK5 _ ?_
    clear hK5 K5
    refine pwp_ret ?_
    refine ⟨Or.inr rfl, _, rfl, rfl, _, rfl, ?_, _, rfl⟩
    exact ⟨by kernel_rfl, rfl⟩

end Go.Proofs.YtdojhoegildiaaaGreat

namespace Go.PL
open Go.RL
/-- quick: what is known behind each step. -/
def qk1 (M N : Rat) : Bool := (((frF M).ok && (sqF (frF M)).ok) && (frF N).ok) && (sqF (frF N)).ok
def qB (B M : Rat) : Iv := muF (frF B) (sqF (frF M))
def qC (C N : Rat) : Iv := muF (frF C) (sqF (frF N))
def qMN (M N : Rat) : Iv := muF (sqF (frF M)) (sqF (frF N))
def qD (D M N : Rat) : Iv := muF (frF D) (qMN M N)
def qk2 (B C D M N : Rat) : Bool := ((((((frF B).ok && (qB B M).ok) && (frF C).ok) && (qC C N).ok) && (frF D).ok) && (qMN M N).ok) && (qD D M N).ok
def qAB (A B M : Rat) : Iv := adF (frF A) (qB B M)
def qCD (C D M N : Rat) : Iv := adF (qC C N) (qD D M N)
def qS (A B C D M N : Rat) : Iv := adF (qAB A B M) (qCD C D M N)
def qk3 (A B C D M N : Rat) : Bool := (((frF A).ok && (qAB A B M).ok) && (qCD C D M N).ok) && (qS A B C D M N).ok
/-- quick -/
def quF (A B C D M N : Rat) : Int × Bool := if qk1 M N = true ∧ qk2 B C D M N = true ∧ qk3 A B C D M N = true then siF (qS A B C D M N) else (0, false)
variable {A B C D M N : Rat}
theorem quF_1 (h : qk1 M N = false) : quF A B C D M N = (0, false) := if_neg (by rw [h]; simp)
theorem quF_2 (h : qk2 B C D M N = false) : quF A B C D M N = (0, false) := if_neg (by rw [h]; simp)
theorem quF_3 (h : qk3 A B C D M N = false) : quF A B C D M N = (0, false) := if_neg (by rw [h]; simp)
theorem quF_4 (h1 : qk1 M N = true) (h2 : qk2 B C D M N = true) (h3 : qk3 A B C D M N = true) : quF A B C D M N = siF (qS A B C D M N) := if_pos ⟨h1, h2, h3⟩
/-- quick's answers are right. -/
theorem quF_ok (hM : 0 ≤ M) (hN : 0 ≤ N) (h : (quF A B C D M N).2 = true) : (quF A B C D M N).1 = quad A B C D M N := by
  unfold quF at h ⊢
  split
  · rename_i c
    rw [if_pos c] at h
    obtain ⟨c1, c2, c3⟩ := c
    simp only [qk1, qk2, qk3, Bool.and_eq_true] at c1 c2 c3
    obtain ⟨⟨⟨m1, m2⟩, n1⟩, n2⟩ := c1
    obtain ⟨⟨⟨⟨⟨⟨b1, b2⟩, e1⟩, e2⟩, d1⟩, d2⟩, d3⟩ := c2
    obtain ⟨⟨⟨a1, a2⟩, a3⟩, a4⟩ := c3
    rw [quad_eq hM hN]
    have im := sqF_ok hM m2 (frF_ok m1)
    have i_n := sqF_ok hN n2 (frF_ok n1)
    have hB := muF_ok b2 (frF_ok b1) im
    have hC := muF_ok e2 (frF_ok e1) i_n
    have hmn := muF_ok d2 im i_n
    have hD := muF_ok d3 (frF_ok d1) hmn
    have hS := adF_ok a4 (adF_ok a2 (frF_ok a1) hB) (adF_ok a3 hC hD)
    refine siF_ok h (inI_eqv (eqv_of_eq ?_) hS)
    apply Re.ext; intro n
    show A + B * (rt M).s n + (C * (rt N).s n + D * ((rt M).s n * (rt N).s n)) = A + B * (rt M).s n + (C + D * (rt M).s n) * (rt N).s n
    grind
  · rename_i c; rw [if_neg c] at h; cases h
/-- What is known behind the second step, as the program computes it. -/
def qK2 (B C D M N : Rat) : Bool := ((((((qk1 M N && (frF B).ok) && (qB B M).ok) && (frF C).ok) && (qC C N).ok) && (frF D).ok) && (qMN M N).ok) && (qD D M N).ok
def qK3 (A B C D M N : Rat) : Bool := (((qK2 B C D M N && (frF A).ok) && (qAB A B M).ok) && (qCD C D M N).ok) && (qS A B C D M N).ok
theorem qK2_eq (h : qk1 M N = true) : qK2 B C D M N = qk2 B C D M N := by simp only [qK2, h, Bool.true_and, qk2]
theorem qK3_eq (h : qK2 B C D M N = true) : qK3 A B C D M N = qk3 A B C D M N := by simp only [qK3, h, Bool.true_and, qk3]
theorem quG_1 (h : (!qk1 M N) = true) : quF A B C D M N = (0, false) := quF_1 (not_t h)
theorem quG_2 (h1 : (!qk1 M N) = false) (h : (!qK2 B C D M N) = true) : quF A B C D M N = (0, false) := quF_2 (by rw [← qK2_eq (not_f h1)]; exact not_t h)
theorem quG_3 (h2 : (!qK2 B C D M N) = false) (h : (!qK3 A B C D M N) = true) : quF A B C D M N = (0, false) := quF_3 (by rw [← qK3_eq (not_f h2)]; exact not_t h)
theorem quG_4 (h1 : (!qk1 M N) = false) (h2 : (!qK2 B C D M N) = false) (h3 : (!qK3 A B C D M N) = false) : quF A B C D M N = siF (qS A B C D M N) :=
  quF_4 (not_f h1) (by rw [← qK2_eq (not_f h1)]; exact not_f h2) (by rw [← qK3_eq (not_f h2)]; exact not_f h3)
end Go.PL

set_option linter.unusedSimpArgs false
set_option linter.unusedVariables false
set_option maxRecDepth 20000
namespace Go.Proofs.YtdojhoegildiaaaGreat
open Go Go.PL Go.RL
set_option maxHeartbeats 4000000 in
theorem c_radical_quick (A B C D M N : Rat) {kA kB kC kD kM kN : Nat} [SzR A kA] [SzR B kB] [SzR C kC] [SzR D kD] [SzR M kM] [SzR N kN] (hk : kA + kB + kC + kD + kM + kN ≤ 20000) :
    Ret Tryz.prog 39 [.a (ratC A ++ (ratC B ++ (ratC C ++ (ratC D ++ (ratC M ++ ratC N)))))] (.t [.c (.int .i64 (quF A B C D M N).1), .c (.bool (quF A B C D M N).2)]) := by
  refine ret_of_body (md := { wf := fun f => f == 78 }) Tryz.func39 (by kernel_rfl) rfl ?_
  simp only [Tryz.f39, List.map_cons, List.map_nil, List.length_cons, List.length_nil, Nat.zero_add, Nat.reduceAdd, Nat.reduceSub, List.reduceReplicate, List.cons_append, List.nil_append]
  refine pwx_sr 1 [] (by rfl) (fun K1 hK1 => ?_)
  simp (disch := omega) only [go_sem]
  refine hK1 _ ?_
  clear hK1 K1
  refine pwx_sr 1 [] (by rfl) (fun K2 hK2 => ?_)
  simp (disch := omega) only [go_sem]
  refine hK2 _ ?_
  clear hK2 K2
  refine pwx_sr 1 [] (by rfl) (fun K3 hK3 => ?_)
  refine rgnX_take 5 (fun K4 hK4 => ?_)
  simp (disch := omega) only [go_sem]
  refine ⟨_, c_filter_FromRat _ (by omega), ?_⟩
  refine hK4 _ ?_
  refine rgnX_take 3 (fun K5 hK5 => ?_)
  simp (disch := omega) only [go_sem]
  refine ⟨_, _, _, _, _, _, ⟨rfl, rfl⟩, rfl, retW_of_M (fun σ hs => w_known_with _ _ _ _ σ hs), ?_⟩
  refine hK5 _ ?_
  refine rgnX_take 1 (fun K6 hK6 => ?_)
  simp (disch := omega) only [go_sem]
  refine ⟨_, c_filter_Sqrt _ (frF_bd _), ?_⟩
  refine hK6 _ ?_
  refine rgnX_take 3 (fun K7 hK7 => ?_)
  simp (disch := omega) only [go_sem]
  refine ⟨_, _, _, _, _, _, ⟨rfl, rfl⟩, rfl, retW_of_M (fun σ hs => w_known_with _ _ _ _ σ hs), ?_⟩
  refine hK7 _ ?_
  simp (disch := omega) only [go_sem]
  refine hK3 _ ?_
  clear hK7 K7 hK6 K6 hK5 K5 hK4 K4 hK3 K3
  refine pwx_sr 1 [] (by rfl) (fun K8 hK8 => ?_)
  refine rgnX_take 5 (fun K9 hK9 => ?_)
  simp (disch := omega) only [go_sem]
  refine ⟨_, c_filter_FromRat _ (by omega), ?_⟩
  refine hK9 _ ?_
  refine rgnX_take 3 (fun K10 hK10 => ?_)
  simp (disch := omega) only [go_sem]
  refine ⟨_, _, _, _, _, _, ⟨rfl, rfl⟩, rfl, retW_of_M (fun σ hs => w_known_with _ _ _ _ σ hs), ?_⟩
  refine hK10 _ ?_
  refine rgnX_take 1 (fun K11 hK11 => ?_)
  simp (disch := omega) only [go_sem]
  refine ⟨_, c_filter_Sqrt _ (frF_bd _), ?_⟩
  refine hK11 _ ?_
  refine rgnX_take 3 (fun K12 hK12 => ?_)
  simp (disch := omega) only [go_sem]
  refine ⟨_, _, _, _, _, _, ⟨rfl, rfl⟩, rfl, retW_of_M (fun σ hs => w_known_with _ _ _ _ σ hs), ?_⟩
  refine hK12 _ ?_
  simp (disch := omega) only [go_sem]
  refine hK8 _ ?_
  clear hK12 K12 hK11 K11 hK10 K10 hK9 K9 hK8 K8
  refine pwp_seq ?_
  refine pwx_sr 0 [] (by rfl) (fun K13 hK13 => ?_)
  simp (disch := omega) only [go_sem]
  refine hK13 _ ?_
  clear hK13 K13
  refine pwp_cond (b := _) (by rfl) (fun hb0 => ?_) (fun hb0 => ?_)
  · first | replace hb0 := of_decide_eq_true hb0 | replace hb0 := of_decide_eq_false hb0 | skip
    refine pwx_sr 0 [] (by rfl) (fun K14 hK14 => ?_)
    simp (disch := omega) only [go_sem]
    refine hK14 _ ?_
    clear hK14 K14
    refine pwp_ret ?_
    refine r_then ?_
    refine ⟨Or.inr rfl, ?_⟩
    simp (disch := omega) only [go_sem]
    rw [quG_1 hb0]; exact ⟨rfl, rfl⟩
  · first | replace hb0 := of_decide_eq_true hb0 | replace hb0 := of_decide_eq_false hb0 | skip
    refine pwp_skip ?_
    refine n_then ?_
    refine pwx_sdH Tryz.mixed 1 [] (by rfl) [] [(1, 0), (4, 1), (5, 2), (7, 4), (42, 1), (43, 1), (44, 0)] (by kernel_rfl) (by kernel_rfl) (by simp) (by simp [HomeAt, St.pad]) (fun K15 hK15 => ?_)
    refine rgnX_take 5 (fun K16 hK16 => ?_)
    simp (disch := omega) only [go_sem]
    refine ⟨_, c_filter_FromRat _ (by omega), ?_⟩
    refine hK16 _ ?_
    refine rgnX_take 3 (fun K17 hK17 => ?_)
    simp (disch := omega) only [go_sem]
    refine ⟨_, _, _, _, _, _, ⟨rfl, rfl⟩, rfl, retW_of_M (fun σ hs => w_known_with _ _ _ _ σ hs), ?_⟩
    refine hK17 _ ?_
    refine rgnX_take 2 (fun K18 hK18 => ?_)
    simp (disch := omega) only [go_sem]
    refine ⟨_, c_filter_Mul _ _ (by first | exact frF_bd _ | exact sqF_bd (frF_bd _) | exact muF_bd _ _) (by first | exact frF_bd _ | exact sqF_bd (frF_bd _) | exact muF_bd _ _), ?_⟩
    refine hK18 _ ?_
    refine rgnX_take 3 (fun K19 hK19 => ?_)
    simp (disch := omega) only [go_sem]
    refine ⟨_, _, _, _, _, _, ⟨rfl, rfl⟩, rfl, retW_of_M (fun σ hs => w_known_with _ _ _ _ σ hs), ?_⟩
    refine hK19 _ ?_
    simp (disch := omega) only [go_sem]
    refine hK15 _ ?_
    clear hK19 K19 hK18 K18 hK17 K17 hK16 K16 hK15 K15
    refine pwx_sdH Tryz.mixed 1 [] (by rfl) [] [(1, 0), (4, 1), (6, 3), (8, 5), (55, 1), (56, 1), (57, 0)] (by kernel_rfl) (by kernel_rfl) (by simp) (by simp [HomeAt, St.pad]) (fun K20 hK20 => ?_)
    refine rgnX_take 5 (fun K21 hK21 => ?_)
    simp (disch := omega) only [go_sem]
    refine ⟨_, c_filter_FromRat _ (by omega), ?_⟩
    refine hK21 _ ?_
    refine rgnX_take 3 (fun K22 hK22 => ?_)
    simp (disch := omega) only [go_sem]
    refine ⟨_, _, _, _, _, _, ⟨rfl, rfl⟩, rfl, retW_of_M (fun σ hs => w_known_with _ _ _ _ σ hs), ?_⟩
    refine hK22 _ ?_
    refine rgnX_take 2 (fun K23 hK23 => ?_)
    simp (disch := omega) only [go_sem]
    refine ⟨_, c_filter_Mul _ _ (by first | exact frF_bd _ | exact sqF_bd (frF_bd _) | exact muF_bd _ _) (by first | exact frF_bd _ | exact sqF_bd (frF_bd _) | exact muF_bd _ _), ?_⟩
    refine hK23 _ ?_
    refine rgnX_take 3 (fun K24 hK24 => ?_)
    simp (disch := omega) only [go_sem]
    refine ⟨_, _, _, _, _, _, ⟨rfl, rfl⟩, rfl, retW_of_M (fun σ hs => w_known_with _ _ _ _ σ hs), ?_⟩
    refine hK24 _ ?_
    simp (disch := omega) only [go_sem]
    refine hK20 _ ?_
    clear hK24 K24 hK23 K23 hK22 K22 hK21 K21 hK20 K20
    refine pwx_sdH Tryz.mixed 1 [] (by rfl) [] [(1, 0), (4, 1), (5, 2), (6, 3), (9, 6), (68, 1), (69, 1), (70, 0), (76, 1)] (by kernel_rfl) (by kernel_rfl) (by simp) (by simp [HomeAt, St.pad]) (fun K25 hK25 => ?_)
    refine rgnX_take 5 (fun K26 hK26 => ?_)
    simp (disch := omega) only [go_sem]
    refine ⟨_, c_filter_FromRat _ (by omega), ?_⟩
    refine hK26 _ ?_
    refine rgnX_take 3 (fun K27 hK27 => ?_)
    simp (disch := omega) only [go_sem]
    refine ⟨_, _, _, _, _, _, ⟨rfl, rfl⟩, rfl, retW_of_M (fun σ hs => w_known_with _ _ _ _ σ hs), ?_⟩
    refine hK27 _ ?_
    refine rgnX_take 4 (fun K28 hK28 => ?_)
    simp (disch := omega) only [go_sem]
    refine ⟨_, c_filter_Mul _ _ (by first | exact frF_bd _ | exact sqF_bd (frF_bd _) | exact muF_bd _ _) (by first | exact frF_bd _ | exact sqF_bd (frF_bd _) | exact muF_bd _ _), ?_⟩
    refine hK28 _ ?_
    refine rgnX_take 3 (fun K29 hK29 => ?_)
    simp (disch := omega) only [go_sem]
    refine ⟨_, _, _, _, _, _, ⟨rfl, rfl⟩, rfl, retW_of_M (fun σ hs => w_known_with _ _ _ _ σ hs), ?_⟩
    refine hK29 _ ?_
    refine rgnX_take 1 (fun K30 hK30 => ?_)
    simp (disch := omega) only [go_sem]
    refine ⟨_, c_filter_Mul _ _ (by first | exact frF_bd _ | exact sqF_bd (frF_bd _) | exact muF_bd _ _) (by first | exact frF_bd _ | exact sqF_bd (frF_bd _) | exact muF_bd _ _), ?_⟩
    refine hK30 _ ?_
    refine rgnX_take 3 (fun K31 hK31 => ?_)
    simp (disch := omega) only [go_sem]
    refine ⟨_, _, _, _, _, _, ⟨rfl, rfl⟩, rfl, retW_of_M (fun σ hs => w_known_with _ _ _ _ σ hs), ?_⟩
    refine hK31 _ ?_
    simp (disch := omega) only [go_sem]
    refine hK25 _ ?_
    clear hK31 K31 hK30 K30 hK29 K29 hK28 K28 hK27 K27 hK26 K26 hK25 K25
    refine pwp_seq ?_
    refine pwx_sr 0 [] (by rfl) (fun K32 hK32 => ?_)
    simp (disch := omega) only [go_sem]
    refine hK32 _ ?_
    clear hK32 K32
    refine pwp_cond (b := _) (by rfl) (fun hb1 => ?_) (fun hb1 => ?_)
    · first | replace hb1 := of_decide_eq_true hb1 | replace hb1 := of_decide_eq_false hb1 | skip
      refine pwx_sr 0 [] (by rfl) (fun K33 hK33 => ?_)
      simp (disch := omega) only [go_sem]
      refine hK33 _ ?_
      clear hK33 K33
      refine pwp_ret ?_
      refine r_then ?_
      refine ⟨Or.inr rfl, ?_⟩
      simp (disch := omega) only [go_sem]
      rw [quG_2 hb0 hb1]; exact ⟨rfl, rfl⟩
    · first | replace hb1 := of_decide_eq_true hb1 | replace hb1 := of_decide_eq_false hb1 | skip
      refine pwp_skip ?_
      refine n_then ?_
      refine pwx_sdH Tryz.mixed 1 [] (by rfl) [] [(1, 0), (4, 1), (7, 4), (8, 5), (9, 6), (10, 7), (92, 1), (93, 1), (94, 1), (95, 0), (106, 1)] (by kernel_rfl) (by kernel_rfl) (by simp) (by simp [HomeAt, St.pad]) (fun K34 hK34 => ?_)
      refine rgnX_take 6 (fun K35 hK35 => ?_)
      simp (disch := omega) only [go_sem]
      refine ⟨_, c_filter_FromRat _ (by omega), ?_⟩
      refine hK35 _ ?_
      refine rgnX_take 3 (fun K36 hK36 => ?_)
      simp (disch := omega) only [go_sem]
      refine ⟨_, _, _, _, _, _, ⟨rfl, rfl⟩, rfl, retW_of_M (fun σ hs => w_known_with _ _ _ _ σ hs), ?_⟩
      refine hK36 _ ?_
      refine rgnX_take 2 (fun K37 hK37 => ?_)
      simp (disch := omega) only [go_sem]
      refine ⟨_, c_filter_Add _ _ (by first | exact frF_bd _ | exact muF_bd _ _ | exact adF_bd (frF_bd _) (muF_bd _ _)) (by first | exact frF_bd _ | exact muF_bd _ _ | exact adF_bd (muF_bd _ _) (muF_bd _ _)), ?_⟩
      refine hK37 _ ?_
      refine rgnX_take 3 (fun K38 hK38 => ?_)
      simp (disch := omega) only [go_sem]
      refine ⟨_, _, _, _, _, _, ⟨rfl, rfl⟩, rfl, retW_of_M (fun σ hs => w_known_with _ _ _ _ σ hs), ?_⟩
      refine hK38 _ ?_
      refine rgnX_take 4 (fun K39 hK39 => ?_)
      simp (disch := omega) only [go_sem]
      refine ⟨_, c_filter_Add _ _ (by first | exact frF_bd _ | exact muF_bd _ _ | exact adF_bd (frF_bd _) (muF_bd _ _)) (by first | exact frF_bd _ | exact muF_bd _ _ | exact adF_bd (muF_bd _ _) (muF_bd _ _)), ?_⟩
      refine hK39 _ ?_
      refine rgnX_take 3 (fun K40 hK40 => ?_)
      simp (disch := omega) only [go_sem]
      refine ⟨_, _, _, _, _, _, ⟨rfl, rfl⟩, rfl, retW_of_M (fun σ hs => w_known_with _ _ _ _ σ hs), ?_⟩
      refine hK40 _ ?_
      refine rgnX_take 1 (fun K41 hK41 => ?_)
      simp (disch := omega) only [go_sem]
      refine ⟨_, c_filter_Add _ _ (by first | exact frF_bd _ | exact muF_bd _ _ | exact adF_bd (frF_bd _) (muF_bd _ _)) (by first | exact frF_bd _ | exact muF_bd _ _ | exact adF_bd (muF_bd _ _) (muF_bd _ _)), ?_⟩
      refine hK41 _ ?_
      refine rgnX_take 3 (fun K42 hK42 => ?_)
      simp (disch := omega) only [go_sem]
      refine ⟨_, _, _, _, _, _, ⟨rfl, rfl⟩, rfl, retW_of_M (fun σ hs => w_known_with _ _ _ _ σ hs), ?_⟩
      refine hK42 _ ?_
      simp (disch := omega) only [go_sem]
      refine hK34 _ ?_
      clear hK42 K42 hK41 K41 hK40 K40 hK39 K39 hK38 K38 hK37 K37 hK36 K36 hK35 K35 hK34 K34
      refine pwp_seq ?_
      refine pwx_sr 0 [] (by rfl) (fun K43 hK43 => ?_)
      simp (disch := omega) only [go_sem]
      refine hK43 _ ?_
      clear hK43 K43
      refine pwp_cond (b := _) (by rfl) (fun hb2 => ?_) (fun hb2 => ?_)
      · first | replace hb2 := of_decide_eq_true hb2 | replace hb2 := of_decide_eq_false hb2 | skip
        refine pwx_sr 0 [] (by rfl) (fun K44 hK44 => ?_)
        simp (disch := omega) only [go_sem]
        refine hK44 _ ?_
        clear hK44 K44
        refine pwp_ret ?_
        refine r_then ?_
        refine ⟨Or.inr rfl, ?_⟩
        simp (disch := omega) only [go_sem]
        rw [quG_3 (A := A) hb1 hb2]; exact ⟨rfl, rfl⟩
      · first | replace hb2 := of_decide_eq_true hb2 | replace hb2 := of_decide_eq_false hb2 | skip
        refine pwp_skip ?_
        refine n_then ?_
        refine pwx_sr 0 [] (by rfl) (fun K45 hK45 => ?_)
        refine rgnX_take 2 (fun K46 hK46 => ?_)
        simp (disch := omega) only [go_sem]
        refine ⟨_, c_filter_Sign _, ?_⟩
        refine hK46 _ ?_
        simp (disch := omega) only [go_sem]
        refine hK45 _ ?_
        clear hK46 K46 hK45 K45
        refine pwp_ret ?_
        refine ⟨Or.inr rfl, ?_⟩
        simp (disch := omega) only [go_sem]
        rw [quG_4 (A := A) hb0 hb1 hb2]; exact ⟨rfl, rfl⟩

end Go.Proofs.YtdojhoegildiaaaGreat

namespace Go.PL
open Go.RL
theorem sgnQ_cases (q : Rat) : sgnQ q = 1 ∨ sgnQ q = -1 ∨ sgnQ q = 0 := by
  unfold sgnQ; repeat' split
  all_goals simp
theorem sgnQ_bd (q : Rat) : -1 ≤ sgnQ q ∧ sgnQ q ≤ 1 := by rcases sgnQ_cases q with h | h | h <;> omega
theorem mul_bd {x y : Int} (hx : -1 ≤ x ∧ x ≤ 1) (hy : -1 ≤ y ∧ y ≤ 1) : -1 ≤ x * y ∧ x * y ≤ 1 := by
  obtain ⟨a, b⟩ := hx; obtain ⟨c, d⟩ := hy
  have : x = -1 ∨ x = 0 ∨ x = 1 := by omega
  rcases this with rfl | rfl | rfl <;> omega
theorem cmpQ_bd (p q : Rat) : -1 ≤ cmpQ p q ∧ cmpQ p q ≤ 1 := sgnQ_bd _
variable {a b m : Rat}
theorem two_bd (a b m : Rat) : -1 ≤ two a b m ∧ two a b m ≤ 1 := by
  unfold two
  simp only
  have h1 := sgnQ_bd a
  have h2 := mul_bd (sgnQ_bd b) (sgnQ_bd m)
  have h3 := mul_bd (sgnQ_bd a) (cmpQ_bd (a * a) (b * b * m))
  split
  · exact h2
  · split
    · exact h1
    · exact h3
theorem two_1 (h : sgnQ b * sgnQ m = 0) : two a b m = sgnQ a := by
  unfold two; simp only [h]
  split
  · rename_i h'; exact h'.symm
  · simp
theorem two_2 (h : sgnQ a = sgnQ b * sgnQ m) : two a b m = sgnQ a := by
  unfold two; simp only [← h]
  split
  · rfl
  · simp
theorem two_3 (h : sgnQ a = 0) : two a b m = sgnQ b * sgnQ m := if_pos h
theorem two_4 (h : ¬ sgnQ b * sgnQ m = 0) (h1 : ¬ sgnQ a = sgnQ b * sgnQ m) (h2 : ¬ sgnQ a = 0) : two a b m = sgnQ a * cmpQ (a * a) (b * b * m) := by
  unfold two; rw [if_neg h2, if_neg (by rintro (h' | h') <;> contradiction)]
/-- apart -/
def apF (i j : Iv) : Int × Bool := if i.ok = false ∨ j.ok = false then (0, false) else if i.hi < j.lo then (-1, true) else if j.hi < i.lo then (1, true) else (0, false)
variable {i j : Iv}
theorem apF_1 (h : i.ok = false ∨ j.ok = false) : apF i j = (0, false) := if_pos h
theorem apF_2 (h : i.ok = true) (h' : j.ok = true) (h2 : i.hi < j.lo) : apF i j = (-1, true) := by unfold apF; rw [if_neg (by rw [h, h']; simp), if_pos h2]
theorem apF_3 (h : i.ok = true) (h' : j.ok = true) (h2 : ¬ i.hi < j.lo) (h3 : j.hi < i.lo) : apF i j = (1, true) := by unfold apF; rw [if_neg (by rw [h, h']; simp), if_neg h2, if_pos h3]
theorem apF_4 (h : i.ok = true) (h' : j.ok = true) (h2 : ¬ i.hi < j.lo) (h3 : ¬ j.hi < i.lo) : apF i j = (0, false) := by unfold apF; rw [if_neg (by rw [h, h']; simp), if_neg h2, if_neg h3]
theorem inI_sub {a b c d : Int} {x y : Re} (h : inI a b x) (h' : inI c d y) : inI (a + -d) (b + -c) (x - y) := inI_add h (inI_neg h')
theorem apF_ok {x y : Re} (hx : i.ok = true → inI i.lo i.hi x) (hy : j.ok = true → inI j.lo j.hi y) (h : (apF i j).2 = true) : (apF i j).1 = sgn (x - y) := by
  unfold apF at h ⊢
  split
  · rename_i c; rw [if_pos c] at h; cases h
  · rename_i c
    rw [if_neg c] at h
    simp only [not_or] at c
    have hs := inI_sub (hx (bfalse c.1)) (hy (bfalse c.2))
    split
    · exact (inI_negv hs (by omega)).symm
    · rename_i c2
      rw [if_neg c2] at h
      split
      · exact (inI_pos hs (by omega)).symm
      · rename_i c3; rw [if_neg c3] at h; cases h
/-- The order of two roots. -/
def cmpR (a b c a' b' c' : Rat) : Int := quad (a - a') b (-b') 0 c c'
variable {a b c a' b' c' : Rat}
theorem v4_sub : v4 (a - a') b (-b') 0 c c' = v2 a b c - v2 a' b' c' := by
  apply Re.ext; intro n
  show (a - a') + b * (rt c).s n + (-b' + 0 * (rt c).s n) * (rt c').s n = (a + b * (rt c).s n) + -(a' + b' * (rt c').s n)
  grind
theorem cmpR_eq (hc : 0 ≤ c) (hc' : 0 ≤ c') : cmpR a b c a' b' c' = sgn (v2 a b c - v2 a' b' c') := by
  unfold cmpR; rw [quad_eq hc hc', v4_sub]
theorem cmpR_0 (hc : 0 ≤ c) (hc' : 0 ≤ c') : cmpR a 0 c a' 0 c' = cmpQ a a' := by
  rw [cmpR_eq hc hc', v2_b0, v2_b0, ← Re.of_sub, sgn_of]; rfl
theorem cmpR_ap (hc : 0 ≤ c) (hc' : 0 ≤ c') (h : (apF (rooF a b c) (rooF a' b' c')).2 = true) : (apF (rooF a b c) (rooF a' b' c')).1 = cmpR a b c a' b' c' := by
  rw [cmpR_eq hc hc']
  exact apF_ok rooF_ok rooF_ok h
theorem cmpR_same (hc : 0 ≤ c) : cmpR a b c a' b' c = two (a - a') (b - b') c := by
  rw [cmpR_eq hc hc, two_eq hc]
  congr 1
  apply Re.ext; intro n
  show (a + b * (rt c).s n) + -(a' + b' * (rt c).s n) = (a - a') + (b - b') * (rt c).s n
  grind
theorem two_r1 (h : sgnQ a = 0) : two a b m = sgnQ b * sgnQ m := if_pos h
theorem two_r2 (h : sgnQ a = 0 ∨ sgnQ b * sgnQ m = 0 ∨ sgnQ a = sgnQ b * sgnQ m) (h' : ¬ sgnQ a = 0) : two a b m = sgnQ a := by
  rcases h with h | h | h
  · contradiction
  · exact two_1 h
  · exact two_2 h
variable {A B C D M N : Rat}
theorem quad_0 (h : M < 0 ∨ N < 0) : quad A B C D M N = 0 := if_pos h
theorem quad_q (h : ¬ M < 0) (h' : ¬ N < 0) (hq : (quF A B C D M N).2 = true) : (quF A B C D M N).1 = quad A B C D M N := quF_ok (Rat.not_lt.1 h) (Rat.not_lt.1 h') hq
theorem quad_1 (h : ¬ M < 0) (h' : ¬ N < 0) (h1 : two C D M * sgnQ N = 0) : quad A B C D M N = two A B M := by
  unfold quad
  rw [if_neg (by rintro (c | c) <;> contradiction)]
  simp only [h1]
  split
  · rename_i h'; exact h'.symm
  · simp
theorem quad_2 (h : ¬ M < 0) (h' : ¬ N < 0) (h1 : two A B M = two C D M * sgnQ N) : quad A B C D M N = two A B M := by
  unfold quad
  rw [if_neg (by rintro (c | c) <;> contradiction)]
  simp only [← h1]
  split
  · rfl
  · simp
theorem quad_3 (h : ¬ M < 0) (h' : ¬ N < 0) (h1 : two A B M = 0) : quad A B C D M N = two C D M * sgnQ N := by
  unfold quad
  rw [if_neg (by rintro (c | c) <;> contradiction), if_pos h1]
theorem quad_4 (h : ¬ M < 0) (h' : ¬ N < 0) (h1 : ¬ two C D M * sgnQ N = 0) (h2 : ¬ two A B M = two C D M * sgnQ N) (h3 : ¬ two A B M = 0) :
    quad A B C D M N = two A B M * two (A * A + M * (B * B) - N * (C * C + M * (D * D))) ((A * B - N * (C * D)) + (A * B - N * (C * D))) M := by
  unfold quad
  rw [if_neg (by rintro (c | c) <;> contradiction), if_neg h3, if_neg (by rintro (c | c) <;> contradiction), Rat.mul_comm M (B * B), Rat.mul_comm M (D * D)]
theorem quad_r2 (h : ¬ M < 0) (h' : ¬ N < 0) (h1 : two A B M = 0 ∨ two C D M * sgnQ N = 0 ∨ two A B M = two C D M * sgnQ N) (h2 : ¬ two A B M = 0) : quad A B C D M N = two A B M := by
  rcases h1 with c | c | c
  · contradiction
  · exact quad_1 h h' c
  · exact quad_2 h h' c
theorem quad_r4 (h : ¬ M < 0) (h' : ¬ N < 0) (h1 : ¬ two C D M * sgnQ N = 0) (h2 : ¬ two A B M = two C D M * sgnQ N) (h3 : ¬ two A B M = 0) :
    quad A B C D M N = two A B M * two (A * A + B * B * M - N * (C * C + D * D * M)) ((A * B - N * (C * D)) + (A * B - N * (C * D))) M := by
  unfold quad
  rw [if_neg (by rintro (c | c) <;> contradiction), if_neg h3, if_neg (by rintro (c | c) <;> contradiction)]
end Go.PL

set_option linter.unusedSimpArgs false
set_option linter.unusedVariables false
set_option maxRecDepth 20000
namespace Go.Proofs.YtdojhoegildiaaaGreat
open Go Go.PL Go.RL
set_option maxHeartbeats 4000000 in
theorem c_radical_plain (a b m : Rat) {k l o : Nat} [SzR a k] [SzR b l] [SzR m o] (hk : k + l + o ≤ 40000) :
    Ret Tryz.prog 40 [.a (ratC a), .a (ratC b), .a (ratC m)] (.e (.c (.int .i64 (two a b m)))) := by
  refine ret_of_body (md := {}) Tryz.func40 (by kernel_rfl) rfl ?_
  simp only [Tryz.f40, List.map_cons, List.map_nil, List.length_cons, List.length_nil, Nat.zero_add, Nat.reduceAdd, Nat.reduceSub, List.reduceReplicate, List.cons_append, List.nil_append]
  have h1 := mul_bd (sgnQ_bd b) (sgnQ_bd m)
  have h2 := mul_bd (sgnQ_bd a) (cmpQ_bd (a * a) (b * b * m))
  refine pwx_sr 3 [] (by rfl) (fun K1 hK1 => ?_)
  simp (disch := omega) only [go_sem]
  refine hK1 _ ?_
  clear hK1 K1
  refine pwx_sd Tryz.mixed 0 [] (by rfl) [] (by kernel_rfl) (by simp) (fun K2 hK2 => ?_)
  refine rgnX_take 2 (fun K3 hK3 => ?_)
  simp (disch := omega) only [go_sem]
  refine ⟨_, c_rational_Sign _, ?_⟩
  refine hK3 _ ?_
  refine rgnX_take 2 (fun K4 hK4 => ?_)
  simp (disch := omega) only [go_sem]
  refine ⟨_, c_rational_Sign _, ?_⟩
  refine hK4 _ ?_
  refine rgnX_take 2 (fun K5 hK5 => ?_)
  simp (disch := omega) only [go_sem]
  refine ⟨_, c_rational_Sign _, ?_⟩
  refine hK5 _ ?_
  simp (disch := omega) only [go_sem]
  refine hK2 _ ?_
  clear hK5 K5 hK4 K4 hK3 K3 hK2 K2
  refine pwp_seq ?_
  refine pwp_block ?_
  by_cases h0 : sgnQ b * sgnQ m = 0
  · refine pwx_sr 0 [some 17, some 18, some 19, some 20, some 21, some 22, some 23, some 16] (by rfl) (fun K6 hK6 => ?_)
    simp (disch := omega) only [go_sem]
    refine hK6 _ ?_
    clear hK6 K6
    refine pwp_cond (b := true) (by rfl) (fun _ => ?_) (fun h => nomatch h)
    refine pwx_sr 0 [] (by rfl) (fun K7 hK7 => ?_)
    simp (disch := omega) only [go_sem]
    refine hK7 _ ?_
    clear hK7 K7
    refine pwp_ret ?_
    refine r_block ?_
    refine r_then ?_
    refine ⟨Or.inr rfl, ?_⟩
    simp (disch := omega) only [go_sem]
    rw [two_1 h0]
  · refine pwx_sr 0 [some 17, some 18, some 19, some 20, some 21, some 22, some 23, some 16] (by rfl) (fun K8 hK8 => ?_)
    simp (disch := omega) only [go_sem]
    refine hK8 _ ?_
    clear hK8 K8
    refine pwp_cond (b := _) (by rfl) (fun hb1 => ?_) (fun hb1 => ?_)
    · first | replace hb1 := of_decide_eq_true hb1 | replace hb1 := of_decide_eq_false hb1 | skip
      refine pwx_sr 0 [] (by rfl) (fun K9 hK9 => ?_)
      simp (disch := omega) only [go_sem]
      refine hK9 _ ?_
      clear hK9 K9
      refine pwp_ret ?_
      refine r_block ?_
      refine r_then ?_
      refine ⟨Or.inr rfl, ?_⟩
      simp (disch := omega) only [go_sem]
      rw [two_2 hb1]
    · first | replace hb1 := of_decide_eq_true hb1 | replace hb1 := of_decide_eq_false hb1 | skip
      refine pwx_sr 0 [] (by rfl) (fun K10 hK10 => ?_)
      simp (disch := omega) only [go_sem]
      refine hK10 _ ?_
      clear hK10 K10
      refine pwp_cond (b := _) (by rfl) (fun hb2 => ?_) (fun hb2 => ?_)
      · first | replace hb2 := of_decide_eq_true hb2 | replace hb2 := of_decide_eq_false hb2 | skip
        refine pwx_sr 0 [] (by rfl) (fun K11 hK11 => ?_)
        simp (disch := omega) only [go_sem]
        refine hK11 _ ?_
        clear hK11 K11
        refine pwp_ret ?_
        refine r_block ?_
        refine r_then ?_
        refine ⟨Or.inr rfl, ?_⟩
        simp (disch := omega) only [go_sem]
        rw [two_3 (by rw [sgnQ_eqz]; exact hb2)]
      · first | replace hb2 := of_decide_eq_true hb2 | replace hb2 := of_decide_eq_false hb2 | skip
        refine pwp_skip ?_
        refine n_block ?_
        refine n_then ?_
        refine pwx_sd Tryz.mixed 0 [] (by rfl) [] (by kernel_rfl) (by simp) (fun K12 hK12 => ?_)
        refine rgnX_take 4 (fun K13 hK13 => ?_)
        simp (disch := omega) only [go_sem]
        refine ⟨_, c_rational_Mul _ _ (by omega), ?_⟩
        refine hK13 _ ?_
        refine rgnX_take 3 (fun K14 hK14 => ?_)
        simp (disch := omega) only [go_sem]
        refine ⟨_, c_rational_Mul _ _ (by omega), ?_⟩
        refine hK14 _ ?_
        refine rgnX_take 2 (fun K15 hK15 => ?_)
        simp (disch := omega) only [go_sem]
        refine ⟨_, c_rational_Mul _ _ (by omega), ?_⟩
        refine hK15 _ ?_
        refine rgnX_take 1 (fun K16 hK16 => ?_)
        simp (disch := omega) only [go_sem]
        refine ⟨_, c_rational_Cmp _ _ (by omega), ?_⟩
        refine hK16 _ ?_
        simp (disch := omega) only [go_sem]
        refine hK12 _ ?_
        clear hK16 K16 hK15 K15 hK14 K14 hK13 K13 hK12 K12
        refine pwp_ret ?_
        refine ⟨Or.inr rfl, ?_⟩
        simp (disch := omega) only [go_sem]
        rw [two_4 h0 hb1 (by rw [sgnQ_eqz]; exact hb2)]
set_option maxHeartbeats 4000000 in
theorem c_radical_copied (a : Rat) {k : Nat} [SzR a k] (hk : k ≤ 40000) :
    Ret Tryz.prog 95 [.a (ratC a)] (.e (.a (ratC a))) := by
  refine ret_of_body (md := {}) Tryz.func95 (by kernel_rfl) rfl ?_
  simp only [Tryz.f95, List.map_cons, List.map_nil, List.length_cons, List.length_nil, Nat.zero_add, Nat.reduceAdd, Nat.reduceSub, List.reduceReplicate, List.cons_append, List.nil_append]
  refine pwx_sr 2 [] (by rfl) (fun K1 hK1 => ?_)
  simp (disch := omega) only [go_sem]
  refine hK1 _ ?_
  clear hK1 K1
  refine pwx_sr 0 [] (by rfl) (fun K2 hK2 => ?_)
  refine rgnX_take 2 (fun K3 hK3 => ?_)
  simp (disch := omega) only [go_sem]
  refine ⟨_, c_rational_Neg _ (by omega), ?_⟩
  refine hK3 _ ?_
  refine rgnX_take 1 (fun K4 hK4 => ?_)
  simp (disch := omega) only [go_sem]
  refine ⟨_, c_rational_Neg _ (by omega), ?_⟩
  refine hK4 _ ?_
  simp (disch := omega) only [go_sem]
  refine hK2 _ ?_
  clear hK4 K4 hK3 K3 hK2 K2
  refine pwp_ret ?_
  refine ⟨Or.inr rfl, ?_⟩
  simp (disch := omega) only [go_sem]
  all_goals rw [Rat.neg_neg]
set_option maxHeartbeats 4000000 in
theorem c_radical_add (a b : Rat) {k l : Nat} [SzR a k] [SzR b l] (hkl : k + l ≤ 150000) :
    Ret Tryz.prog 41 [.a (ratC a), .a (ratC b)] (.e (.a (ratC (a + b)))) := by
  refine ret_of_body (md := {}) Tryz.func41 (by kernel_rfl) rfl ?_
  simp only [Tryz.f41, List.map_cons, List.map_nil, List.length_cons, List.length_nil, Nat.zero_add, Nat.reduceAdd, Nat.reduceSub, List.reduceReplicate, List.cons_append, List.nil_append]
  refine pwx_sr 3 [] (by rfl) (fun K1 hK1 => ?_)
  simp (disch := omega) only [go_sem]
  refine hK1 _ ?_
  clear hK1 K1
  refine pwx_sr 0 [] (by rfl) (fun K2 hK2 => ?_)
  refine rgnX_take 3 (fun K3 hK3 => ?_)
  simp (disch := omega) only [go_sem]
  refine ⟨_, c_rational_Add _ _ (by omega), ?_⟩
  refine hK3 _ ?_
  simp (disch := omega) only [go_sem]
  refine hK2 _ ?_
  clear hK3 K3 hK2 K2
  refine pwp_ret ?_
  refine ⟨Or.inr rfl, ?_⟩
  simp (disch := omega) only [go_sem]
set_option maxHeartbeats 4000000 in
theorem c_radical_Sub (a b c a' b' c' : Rat) {k l m k' l' m' : Nat} [SzR a k] [SzR b l] [SzR c m] [SzR a' k'] [SzR b' l'] [SzR c' m'] (hk : k + l + m + k' + l' + m' ≤ 20000) :
    Ret Tryz.prog 53 [.a (ratC (a) ++ (ratC (b) ++ ratC (c))), .a (ratC (a') ++ (ratC (b') ++ ratC (c')))] (.e (.a (ratC (a - a') ++ (ratC b ++ (ratC (-b') ++ (ratC 0 ++ (ratC c ++ ratC c'))))))) := by
  refine ret_of_body (md := {}) Tryz.func53 (by kernel_rfl) rfl ?_
  simp only [Tryz.f53, List.map_cons, List.map_nil, List.length_cons, List.length_nil, Nat.zero_add, Nat.reduceAdd, Nat.reduceSub, List.reduceReplicate, List.cons_append, List.nil_append]
  refine pwx_sr 3 [] (by rfl) (fun K1 hK1 => ?_)
  simp (disch := omega) only [go_sem]
  refine hK1 _ ?_
  clear hK1 K1
  refine pwx_sd Tryz.mixed 0 [] (by rfl) [] (by kernel_rfl) (by simp) (fun K2 hK2 => ?_)
  refine rgnX_take 5 (fun K3 hK3 => ?_)
  simp (disch := omega) only [go_sem]
  refine ⟨_, c_rational_Sub _ _ (by omega), ?_⟩
  refine hK3 _ ?_
  refine rgnX_take 3 (fun K4 hK4 => ?_)
  simp (disch := omega) only [go_sem]
  refine ⟨_, c_radical_copied _ (by omega), ?_⟩
  refine hK4 _ ?_
  refine rgnX_take 3 (fun K5 hK5 => ?_)
  simp (disch := omega) only [go_sem]
  refine ⟨_, c_rational_Neg _ (by omega), ?_⟩
  refine hK5 _ ?_
  refine rgnX_take 1 (fun K6 hK6 => ?_)
  simp (disch := omega) only [go_sem]
  refine ⟨_, c_rational_FromInt64 _ (by omega) (by omega), ?_⟩
  refine hK6 _ ?_
  refine rgnX_take 3 (fun K7 hK7 => ?_)
  simp (disch := omega) only [go_sem]
  refine ⟨_, c_radical_copied _ (by omega), ?_⟩
  refine hK7 _ ?_
  refine rgnX_take 3 (fun K8 hK8 => ?_)
  simp (disch := omega) only [go_sem]
  refine ⟨_, c_radical_copied _ (by omega), ?_⟩
  refine hK8 _ ?_
  simp (disch := omega) only [go_sem]
  refine hK2 _ ?_
  clear hK8 K8 hK7 K7 hK6 K6 hK5 K5 hK4 K4 hK3 K3 hK2 K2
  refine pwp_ret ?_
  refine ⟨Or.inr rfl, ?_⟩
  simp (disch := omega) only [go_sem]
  all_goals rfl

end Go.Proofs.YtdojhoegildiaaaGreat

set_option linter.unusedSimpArgs false
set_option linter.unusedVariables false
set_option maxRecDepth 20000
namespace Go.Proofs.YtdojhoegildiaaaGreat
open Go Go.PL Go.RL
set_option maxHeartbeats 4000000 in
theorem c_radical_apart (a b c a' b' c' : Rat) {k l m k' l' m' : Nat} [SzR a k] [SzR b l] [SzR c m] [SzR a' k'] [SzR b' l'] [SzR c' m'] (hk : k + l + m + k' + l' + m' ≤ 20000) :
    Ret Tryz.prog 52 [.a (ratC (a) ++ (ratC (b) ++ ratC (c))), .a (ratC (a') ++ (ratC (b') ++ ratC (c')))] (.t [.c (.int .i64 (apF (rooF a b c) (rooF a' b' c')).1), .c (.bool (apF (rooF a b c) (rooF a' b' c')).2)]) := by
  refine ret_of_body (md := {}) Tryz.func52 (by kernel_rfl) rfl ?_
  simp only [Tryz.f52, List.map_cons, List.map_nil, List.length_cons, List.length_nil, Nat.zero_add, Nat.reduceAdd, Nat.reduceSub, List.reduceReplicate, List.cons_append, List.nil_append]
  refine pwx_sr 2 [] (by rfl) (fun K1 hK1 => ?_)
  simp (disch := omega) only [go_sem]
  refine hK1 _ ?_
  clear hK1 K1
  refine pwx_sr 1 [] (by rfl) (fun K2 hK2 => ?_)
  refine rgnX_take 2 (fun K3 hK3 => ?_)
  simp (disch := omega) only [go_sem]
  refine ⟨_, c_filter_Root _ _ _ (by omega), ?_⟩
  refine hK3 _ ?_
  simp (disch := omega) only [go_sem]
  refine hK2 _ ?_
  clear hK3 K3 hK2 K2
  refine pwx_sr 1 [] (by rfl) (fun K4 hK4 => ?_)
  refine rgnX_take 2 (fun K5 hK5 => ?_)
  simp (disch := omega) only [go_sem]
  refine ⟨_, c_filter_Root _ _ _ (by omega), ?_⟩
  refine hK5 _ ?_
  simp (disch := omega) only [go_sem]
  refine hK4 _ ?_
  clear hK5 K5 hK4 K4
  refine pwp_seq ?_
  refine pwp_block ?_
  rcases h1 : (rooF a b c).ok with _ | _ <;> rcases h2 : (rooF a' b' c').ok with _ | _
  · refine pwx_sr 0 [some 21, some 22, some 23, some 24, some 25, some 26, some 20] (by rfl) (fun K6 hK6 => ?_)
    simp (disch := omega) only [go_sem, h1, h2]
    refine hK6 _ ?_
    clear hK6 K6
    refine pwp_cond (b := true) (by rfl) (fun _ => ?_) (fun h => nomatch h)
    refine pwx_sr 0 [] (by rfl) (fun K7 hK7 => ?_)
    simp (disch := omega) only [go_sem]
    refine hK7 _ ?_
    clear hK7 K7
    refine pwp_ret ?_
    refine r_block ?_
    refine r_then ?_
    refine ⟨Or.inr rfl, ?_⟩
    simp (disch := omega) only [go_sem]
    rw [apF_1 (by simp [h1])]; exact ⟨rfl, rfl⟩
  · refine pwx_sr 0 [some 21, some 22, some 23, some 24, some 25, some 26, some 20] (by rfl) (fun K8 hK8 => ?_)
    simp (disch := omega) only [go_sem, h1, h2]
    refine hK8 _ ?_
    clear hK8 K8
    refine pwp_cond (b := true) (by rfl) (fun _ => ?_) (fun h => nomatch h)
    refine pwx_sr 0 [] (by rfl) (fun K9 hK9 => ?_)
    simp (disch := omega) only [go_sem]
    refine hK9 _ ?_
    clear hK9 K9
    refine pwp_ret ?_
    refine r_block ?_
    refine r_then ?_
    refine ⟨Or.inr rfl, ?_⟩
    simp (disch := omega) only [go_sem]
    rw [apF_1 (by simp [h1])]; exact ⟨rfl, rfl⟩
  · refine pwx_sr 0 [some 21, some 22, some 23, some 24, some 25, some 26, some 20] (by rfl) (fun K10 hK10 => ?_)
    simp (disch := omega) only [go_sem, h1, h2]
    refine hK10 _ ?_
    clear hK10 K10
    refine pwp_cond (b := true) (by rfl) (fun _ => ?_) (fun h => nomatch h)
    refine pwx_sr 0 [] (by rfl) (fun K11 hK11 => ?_)
    simp (disch := omega) only [go_sem]
    refine hK11 _ ?_
    clear hK11 K11
    refine pwp_ret ?_
    refine r_block ?_
    refine r_then ?_
    refine ⟨Or.inr rfl, ?_⟩
    simp (disch := omega) only [go_sem]
    rw [apF_1 (by simp [h2])]; exact ⟨rfl, rfl⟩
  · refine pwx_sr 0 [some 21, some 22, some 23, some 24, some 25, some 26, some 20] (by rfl) (fun K12 hK12 => ?_)
    simp (disch := omega) only [go_sem, h1, h2]
    refine hK12 _ ?_
    clear hK12 K12
    refine pwp_cond (b := false) (by rfl) (fun h => nomatch h) (fun _ => ?_)
    refine pwx_sr 0 [] (by rfl) (fun K13 hK13 => ?_)
    simp (disch := omega) only [go_sem]
    refine hK13 _ ?_
    clear hK13 K13
    refine pwp_cond (b := _) (by rfl) (fun hb4 => ?_) (fun hb4 => ?_)
    · first | replace hb4 := of_decide_eq_true hb4 | replace hb4 := of_decide_eq_false hb4 | skip
      refine pwx_sr 0 [] (by rfl) (fun K14 hK14 => ?_)
      simp (disch := omega) only [go_sem]
      refine hK14 _ ?_
      clear hK14 K14
      refine pwp_ret ?_
      refine r_block ?_
      refine r_then ?_
      refine ⟨Or.inr rfl, ?_⟩
      simp (disch := omega) only [go_sem]
      rw [apF_2 h1 h2 (by assumption)]; exact ⟨rfl, rfl⟩
    · first | replace hb4 := of_decide_eq_true hb4 | replace hb4 := of_decide_eq_false hb4 | skip
      refine pwx_sr 0 [] (by rfl) (fun K15 hK15 => ?_)
      simp (disch := omega) only [go_sem]
      refine hK15 _ ?_
      clear hK15 K15
      refine pwp_cond (b := _) (by rfl) (fun hb5 => ?_) (fun hb5 => ?_)
      · first | replace hb5 := of_decide_eq_true hb5 | replace hb5 := of_decide_eq_false hb5 | skip
        refine pwx_sr 0 [] (by rfl) (fun K16 hK16 => ?_)
        simp (disch := omega) only [go_sem]
        refine hK16 _ ?_
        clear hK16 K16
        refine pwp_ret ?_
        refine r_block ?_
        refine r_then ?_
        refine ⟨Or.inr rfl, ?_⟩
        simp (disch := omega) only [go_sem]
        rw [apF_3 h1 h2 (by assumption) (by assumption)]; exact ⟨rfl, rfl⟩
      · first | replace hb5 := of_decide_eq_true hb5 | replace hb5 := of_decide_eq_false hb5 | skip
        refine pwp_skip ?_
        refine n_block ?_
        refine n_then ?_
        refine pwx_sr 0 [] (by rfl) (fun K17 hK17 => ?_)
        simp (disch := omega) only [go_sem]
        refine hK17 _ ?_
        clear hK17 K17
        refine pwp_ret ?_
        refine ⟨Or.inr rfl, ?_⟩
        simp (disch := omega) only [go_sem]
        rw [apF_4 h1 h2 (by assumption) (by assumption)]; exact ⟨rfl, rfl⟩
set_option maxHeartbeats 4000000 in
theorem c_radical_Sign (A B C D M N : Rat) {kA kB kC kD kM kN : Nat} [SzR A kA] [SzR B kB] [SzR C kC] [SzR D kD] [SzR M kM] [SzR N kN] (hk : kA + kB + kC + kD + kM + kN ≤ 5000) :
    Ret Tryz.prog 12 [.a (ratC A ++ (ratC B ++ (ratC C ++ (ratC D ++ (ratC M ++ ratC N)))))] (.e (.c (.int .i64 (quad A B C D M N)))) := by
  refine ret_of_body (md := {}) Tryz.func12 (by kernel_rfl) rfl ?_
  simp only [Tryz.f12, List.map_cons, List.map_nil, List.length_cons, List.length_nil, Nat.zero_add, Nat.reduceAdd, Nat.reduceSub, List.reduceReplicate, List.cons_append, List.nil_append]
  have b1 := two_bd A B M
  have b2 := two_bd C D M
  have b3 := mul_bd b2 (sgnQ_bd N)
  have b4 := mul_bd b1 (two_bd (A * A + M * (B * B) - N * (C * C + M * (D * D))) ((A * B - N * (C * D)) + (A * B - N * (C * D))) M)
  refine pwx_sr 1 [] (by rfl) (fun K1 hK1 => ?_)
  simp (disch := omega) only [go_sem]
  refine hK1 _ ?_
  clear hK1 K1
  refine pwp_seq ?_
  by_cases h0 : M < 0
  · refine pwx_sr 0 [some 11, some 12, some 13, some 14, some 15, some 16, some 17, some 18, some 19, some 20] (by rfl) (fun K2 hK2 => ?_)
    refine rgnX_take 3 (fun K3 hK3 => ?_)
    simp (disch := omega) only [go_sem]
    refine ⟨_, c_rational_Sign _, ?_⟩
    refine hK3 _ ?_
    refine rgnX_take 5 (fun K4 hK4 => ?_)
    simp (disch := omega) only [go_sem]
    first | refine ⟨_, c_rational_Sign _, ?_⟩ | skip
    refine hK4 _ ?_
    simp (disch := omega) only [go_sem]
    refine hK2 _ ?_
    clear hK4 K4 hK3 K3 hK2 K2
    refine pwp_cond (b := true) (by rfl) (fun _ => ?_) (fun h => nomatch h)
    refine pwx_sr 0 [] (by rfl) (fun K5 hK5 => ?_)
    simp (disch := omega) only [go_sem]
    refine hK5 _ ?_
    clear hK5 K5
    refine pwp_ret ?_
    refine r_then ?_
    refine ⟨Or.inr rfl, ?_⟩
    simp (disch := omega) only [go_sem]
    rw [quad_0 (.inl h0)]
  · refine pwx_sr 0 [some 11, some 12, some 13, some 14, some 15, some 16, some 17, some 18, some 19, some 20] (by rfl) (fun K6 hK6 => ?_)
    refine rgnX_take 3 (fun K7 hK7 => ?_)
    simp (disch := omega) only [go_sem]
    refine ⟨_, c_rational_Sign _, ?_⟩
    refine hK7 _ ?_
    refine rgnX_take 5 (fun K8 hK8 => ?_)
    simp (disch := omega) only [go_sem]
    first | refine ⟨_, c_rational_Sign _, ?_⟩ | skip
    refine hK8 _ ?_
    simp (disch := omega) only [go_sem]
    refine hK6 _ ?_
    clear hK8 K8 hK7 K7 hK6 K6
    refine pwp_cond (b := _) (by rfl) (fun hb1 => ?_) (fun hb1 => ?_)
    · first | replace hb1 := of_decide_eq_true hb1 | replace hb1 := of_decide_eq_false hb1 | skip
      refine pwx_sr 0 [] (by rfl) (fun K9 hK9 => ?_)
      simp (disch := omega) only [go_sem]
      refine hK9 _ ?_
      clear hK9 K9
      refine pwp_ret ?_
      refine r_then ?_
      refine ⟨Or.inr rfl, ?_⟩
      simp (disch := omega) only [go_sem]
      rw [quad_0 (.inr hb1)]
    · first | replace hb1 := of_decide_eq_true hb1 | replace hb1 := of_decide_eq_false hb1 | skip
      refine pwp_skip ?_
      refine n_then ?_
      refine pwp_seq ?_
      refine pwx_sr 0 [] (by rfl) (fun K10 hK10 => ?_)
      refine rgnX_take 2 (fun K11 hK11 => ?_)
      simp (disch := omega) only [go_sem]
      refine ⟨_, c_radical_quick _ _ _ _ _ _ (by omega), ?_⟩
      refine hK11 _ ?_
      simp (disch := omega) only [go_sem]
      refine hK10 _ ?_
      clear hK11 K11 hK10 K10
      refine pwx_sr 0 [] (by rfl) (fun K12 hK12 => ?_)
      simp (disch := omega) only [go_sem]
      refine hK12 _ ?_
      clear hK12 K12
      refine pwp_cond (b := _) (by rfl) (fun hb2 => ?_) (fun hb2 => ?_)
      · first | replace hb2 := of_decide_eq_true hb2 | replace hb2 := of_decide_eq_false hb2 | skip
        refine pwx_sr 0 [] (by rfl) (fun K13 hK13 => ?_)
        simp (disch := omega) only [go_sem]
        refine hK13 _ ?_
        clear hK13 K13
        refine pwp_ret ?_
        refine r_then ?_
        refine ⟨Or.inr rfl, ?_⟩
        simp (disch := omega) only [go_sem]
        rw [quad_q h0 hb1 hb2]
      · first | replace hb2 := of_decide_eq_true hb2 | replace hb2 := of_decide_eq_false hb2 | skip
        refine pwp_skip ?_
        refine n_then ?_
        refine pwx_sd Tryz.mixed 0 [] (by rfl) [] (by kernel_rfl) (by simp) (fun K14 hK14 => ?_)
        refine rgnX_take 7 (fun K15 hK15 => ?_)
        simp (disch := omega) only [go_sem]
        refine ⟨_, c_radical_plain _ _ _ (by omega), ?_⟩
        refine hK15 _ ?_
        refine rgnX_take 7 (fun K16 hK16 => ?_)
        simp (disch := omega) only [go_sem]
        refine ⟨_, c_radical_plain _ _ _ (by omega), ?_⟩
        refine hK16 _ ?_
        refine rgnX_take 3 (fun K17 hK17 => ?_)
        simp (disch := omega) only [go_sem]
        refine ⟨_, c_rational_Sign _, ?_⟩
        refine hK17 _ ?_
        simp (disch := omega) only [go_sem]
        refine hK14 _ ?_
        clear hK17 K17 hK16 K16 hK15 K15 hK14 K14
        refine pwp_seq ?_
        refine pwp_block ?_
        by_cases h1 : two C D M * sgnQ N = 0
        · refine pwx_sr 0 [some 47, some 48, some 49, some 50, some 51, some 52, some 53, some 46] (by rfl) (fun K18 hK18 => ?_)
          simp (disch := omega) only [go_sem]
          refine hK18 _ ?_
          clear hK18 K18
          refine pwp_cond (b := true) (by rfl) (fun _ => ?_) (fun h => nomatch h)
          refine pwx_sr 0 [] (by rfl) (fun K19 hK19 => ?_)
          simp (disch := omega) only [go_sem]
          refine hK19 _ ?_
          clear hK19 K19
          refine pwp_ret ?_
          refine r_block ?_
          refine r_then ?_
          refine ⟨Or.inr rfl, ?_⟩
          simp (disch := omega) only [go_sem]
          rw [quad_1 h0 hb1 h1]
        · refine pwx_sr 0 [some 47, some 48, some 49, some 50, some 51, some 52, some 53, some 46] (by rfl) (fun K20 hK20 => ?_)
          simp (disch := omega) only [go_sem]
          refine hK20 _ ?_
          clear hK20 K20
          refine pwp_cond (b := _) (by rfl) (fun hb4 => ?_) (fun hb4 => ?_)
          · first | replace hb4 := of_decide_eq_true hb4 | replace hb4 := of_decide_eq_false hb4 | skip
            refine pwx_sr 0 [] (by rfl) (fun K21 hK21 => ?_)
            simp (disch := omega) only [go_sem]
            refine hK21 _ ?_
            clear hK21 K21
            refine pwp_ret ?_
            refine r_block ?_
            refine r_then ?_
            refine ⟨Or.inr rfl, ?_⟩
            simp (disch := omega) only [go_sem]
            rw [quad_2 h0 hb1 (by assumption)]
          · first | replace hb4 := of_decide_eq_true hb4 | replace hb4 := of_decide_eq_false hb4 | skip
            refine pwx_sr 0 [] (by rfl) (fun K22 hK22 => ?_)
            simp (disch := omega) only [go_sem]
            refine hK22 _ ?_
            clear hK22 K22
            refine pwp_cond (b := _) (by rfl) (fun hb5 => ?_) (fun hb5 => ?_)
            · first | replace hb5 := of_decide_eq_true hb5 | replace hb5 := of_decide_eq_false hb5 | skip
              refine pwx_sr 0 [] (by rfl) (fun K23 hK23 => ?_)
              simp (disch := omega) only [go_sem]
              refine hK23 _ ?_
              clear hK23 K23
              refine pwp_ret ?_
              refine r_block ?_
              refine r_then ?_
              refine ⟨Or.inr rfl, ?_⟩
              simp (disch := omega) only [go_sem]
              rw [quad_3 h0 hb1 (by assumption)]
            · first | replace hb5 := of_decide_eq_true hb5 | replace hb5 := of_decide_eq_false hb5 | skip
              refine pwp_skip ?_
              refine n_block ?_
              refine n_then ?_
              refine pwx_sr 0 [] (by rfl) (fun K24 hK24 => ?_)
              simp (disch := omega) only [go_sem]
              refine hK24 _ ?_
              clear hK24 K24
              refine pwx_sr 0 [] (by rfl) (fun K25 hK25 => ?_)
              simp (disch := omega) only [go_sem]
              refine hK25 _ ?_
              clear hK25 K25
              refine pwx_sd Tryz.mixed 1 [] (by rfl) [] (by kernel_rfl) (by simp) (fun K26 hK26 => ?_)
              refine rgnX_take 7 (fun K27 hK27 => ?_)
              simp (disch := omega) only [go_sem]
              refine ⟨_, c_rational_Mul _ _ (by omega), ?_⟩
              refine hK27 _ ?_
              refine rgnX_take 9 (fun K28 hK28 => ?_)
              simp (disch := omega) only [go_sem]
              refine ⟨_, c_rational_Mul _ _ (by omega), ?_⟩
              refine hK28 _ ?_
              refine rgnX_take 1 (fun K29 hK29 => ?_)
              simp (disch := omega) only [go_sem]
              refine ⟨_, c_rational_Mul _ _ (by omega), ?_⟩
              refine hK29 _ ?_
              refine rgnX_take 1 (fun K30 hK30 => ?_)
              simp (disch := omega) only [go_sem]
              refine ⟨_, c_radical_add _ _ (by omega), ?_⟩
              refine hK30 _ ?_
              refine rgnX_take 10 (fun K31 hK31 => ?_)
              simp (disch := omega) only [go_sem]
              refine ⟨_, c_rational_Mul _ _ (by omega), ?_⟩
              refine hK31 _ ?_
              refine rgnX_take 9 (fun K32 hK32 => ?_)
              simp (disch := omega) only [go_sem]
              refine ⟨_, c_rational_Mul _ _ (by omega), ?_⟩
              refine hK32 _ ?_
              refine rgnX_take 1 (fun K33 hK33 => ?_)
              simp (disch := omega) only [go_sem]
              refine ⟨_, c_rational_Mul _ _ (by omega), ?_⟩
              refine hK33 _ ?_
              refine rgnX_take 1 (fun K34 hK34 => ?_)
              simp (disch := omega) only [go_sem]
              refine ⟨_, c_radical_add _ _ (by omega), ?_⟩
              refine hK34 _ ?_
              refine rgnX_take 1 (fun K35 hK35 => ?_)
              simp (disch := omega) only [go_sem]
              refine ⟨_, c_rational_Mul _ _ (by omega), ?_⟩
              refine hK35 _ ?_
              refine rgnX_take 1 (fun K36 hK36 => ?_)
              simp (disch := omega) only [go_sem]
              refine ⟨_, c_rational_Sub _ _ (by omega), ?_⟩
              refine hK36 _ ?_
              simp (disch := omega) only [go_sem]
              refine hK26 _ ?_
              clear hK36 K36 hK35 K35 hK34 K34 hK33 K33 hK32 K32 hK31 K31 hK30 K30 hK29 K29 hK28 K28 hK27 K27 hK26 K26
              refine pwx_sd Tryz.mixed 1 [] (by rfl) [] (by kernel_rfl) (by simp) (fun K37 hK37 => ?_)
              refine rgnX_take 6 (fun K38 hK38 => ?_)
              simp (disch := omega) only [go_sem]
              refine ⟨_, c_rational_Mul _ _ (by omega), ?_⟩
              refine hK38 _ ?_
              refine rgnX_take 9 (fun K39 hK39 => ?_)
              simp (disch := omega) only [go_sem]
              refine ⟨_, c_rational_Mul _ _ (by omega), ?_⟩
              refine hK39 _ ?_
              refine rgnX_take 1 (fun K40 hK40 => ?_)
              simp (disch := omega) only [go_sem]
              refine ⟨_, c_rational_Mul _ _ (by omega), ?_⟩
              refine hK40 _ ?_
              refine rgnX_take 1 (fun K41 hK41 => ?_)
              simp (disch := omega) only [go_sem]
              refine ⟨_, c_rational_Sub _ _ (by omega), ?_⟩
              refine hK41 _ ?_
              simp (disch := omega) only [go_sem]
              refine hK37 _ ?_
              clear hK41 K41 hK40 K40 hK39 K39 hK38 K38 hK37 K37
              refine pwx_sd Tryz.mixed 0 [] (by rfl) [] (by kernel_rfl) (by simp) (fun K42 hK42 => ?_)
              refine rgnX_take 6 (fun K43 hK43 => ?_)
              simp (disch := omega) only [go_sem]
              refine ⟨_, c_radical_add _ _ (by omega), ?_⟩
              refine hK43 _ ?_
              refine rgnX_take 3 (fun K44 hK44 => ?_)
              simp (disch := omega) only [go_sem]
              refine ⟨_, c_radical_plain _ _ _ (by omega), ?_⟩
              refine hK44 _ ?_
              simp (disch := omega) only [go_sem]
              refine hK42 _ ?_
              clear hK44 K44 hK43 K43 hK42 K42
              refine pwp_ret ?_
              refine ⟨Or.inr rfl, ?_⟩
              simp (disch := omega) only [go_sem]
              rw [quad_4 h0 hb1 h1 (by assumption) (by assumption)]
set_option maxHeartbeats 4000000 in
theorem c_radical_Cmp (a b c a' b' c' : Rat) {k l m k' l' m' : Nat} [SzR a k] [SzR b l] [SzR c m] [SzR a' k'] [SzR b' l'] [SzR c' m'] (hk : k + l + m + k' + l' + m' ≤ 2000) (hc : 0 ≤ c) (hc' : 0 ≤ c') :
    Ret Tryz.prog 18 [.a (ratC (a) ++ (ratC (b) ++ ratC (c))), .a (ratC (a') ++ (ratC (b') ++ ratC (c')))] (.e (.c (.int .i64 (cmpR a b c a' b' c')))) := by
  refine ret_of_body (md := {}) Tryz.func18 (by kernel_rfl) rfl ?_
  simp only [Tryz.f18, List.map_cons, List.map_nil, List.length_cons, List.length_nil, Nat.zero_add, Nat.reduceAdd, Nat.reduceSub, List.reduceReplicate, List.cons_append, List.nil_append]
  refine pwx_sr 2 [] (by rfl) (fun K1 hK1 => ?_)
  simp (disch := omega) only [go_sem]
  refine hK1 _ ?_
  clear hK1 K1
  refine pwp_seq ?_
  by_cases h0 : b = 0
  · refine pwx_sr 0 [some 7, some 8, some 9, some 10, some 11, some 12, some 13, some 14, some 15, some 16] (by rfl) (fun K2 hK2 => ?_)
    refine rgnX_take 3 (fun K3 hK3 => ?_)
    simp (disch := omega) only [go_sem]
    refine ⟨_, c_rational_Sign _, ?_⟩
    refine hK3 _ ?_
    refine rgnX_take 5 (fun K4 hK4 => ?_)
    simp (disch := omega) only [go_sem]
    first | refine ⟨_, c_rational_Sign _, ?_⟩ | skip
    refine hK4 _ ?_
    simp (disch := omega) only [go_sem]
    refine hK2 _ ?_
    clear hK4 K4 hK3 K3 hK2 K2
    refine pwp_cond (b := _) (by rfl) (fun hb0 => ?_) (fun hb0 => ?_)
    · first | replace hb0 := of_decide_eq_true hb0 | replace hb0 := of_decide_eq_false hb0 | skip
      refine pwx_sr 0 [] (by rfl) (fun K5 hK5 => ?_)
      refine rgnX_take 5 (fun K6 hK6 => ?_)
      simp (disch := omega) only [go_sem]
      refine ⟨_, c_rational_Cmp _ _ (by omega), ?_⟩
      refine hK6 _ ?_
      simp (disch := omega) only [go_sem]
      refine hK5 _ ?_
      clear hK6 K6 hK5 K5
      refine pwp_ret ?_
      refine r_then ?_
      refine ⟨Or.inr rfl, ?_⟩
      simp (disch := omega) only [go_sem]
      first | (subst h0; subst hb0; exact (cmpR_0 hc hc').symm) | (subst h0; subst hb0; exact cmpR_0 hc hc') | rfl | exact (cmpR_ap hc hc' (by assumption)).symm | (have e : c = c' := (by assumption); subst e; exact cmpR_same hc)
    · first | replace hb0 := of_decide_eq_true hb0 | replace hb0 := of_decide_eq_false hb0 | skip
      refine pwp_skip ?_
      refine n_then ?_
      refine pwp_seq ?_
      refine pwx_sr 0 [] (by rfl) (fun K7 hK7 => ?_)
      refine rgnX_take 3 (fun K8 hK8 => ?_)
      simp (disch := omega) only [go_sem]
      refine ⟨_, c_radical_apart _ _ _ _ _ _ (by omega), ?_⟩
      refine hK8 _ ?_
      simp (disch := omega) only [go_sem]
      refine hK7 _ ?_
      clear hK8 K8 hK7 K7
      refine pwx_sr 0 [] (by rfl) (fun K9 hK9 => ?_)
      simp (disch := omega) only [go_sem]
      refine hK9 _ ?_
      clear hK9 K9
      refine pwp_cond (b := _) (by rfl) (fun hb1 => ?_) (fun hb1 => ?_)
      · first | replace hb1 := of_decide_eq_true hb1 | replace hb1 := of_decide_eq_false hb1 | skip
        refine pwx_sr 0 [] (by rfl) (fun K10 hK10 => ?_)
        simp (disch := omega) only [go_sem]
        refine hK10 _ ?_
        clear hK10 K10
        refine pwp_ret ?_
        refine r_then ?_
        refine ⟨Or.inr rfl, ?_⟩
        simp (disch := omega) only [go_sem]
        first | (subst h0; subst hb0; exact (cmpR_0 hc hc').symm) | (subst h0; subst hb0; exact cmpR_0 hc hc') | rfl | exact (cmpR_ap hc hc' (by assumption)).symm | (have e : c = c' := (by assumption); subst e; exact cmpR_same hc)
      · first | replace hb1 := of_decide_eq_true hb1 | replace hb1 := of_decide_eq_false hb1 | skip
        refine pwp_skip ?_
        refine n_then ?_
        refine pwp_seq ?_
        refine pwx_sr 0 [] (by rfl) (fun K11 hK11 => ?_)
        refine rgnX_take 5 (fun K12 hK12 => ?_)
        simp (disch := omega) only [go_sem]
        refine ⟨_, c_rational_Cmp _ _ (by omega), ?_⟩
        refine hK12 _ ?_
        simp (disch := omega) only [go_sem]
        refine hK11 _ ?_
        clear hK12 K12 hK11 K11
        refine pwp_cond (b := _) (by rfl) (fun hb2 => ?_) (fun hb2 => ?_)
        · first | replace hb2 := of_decide_eq_true hb2 | replace hb2 := of_decide_eq_false hb2 | skip
          refine pwx_sd Tryz.mixed 0 [] (by rfl) [] (by kernel_rfl) (by simp) (fun K13 hK13 => ?_)
          refine rgnX_take 5 (fun K14 hK14 => ?_)
          simp (disch := omega) only [go_sem]
          refine ⟨_, c_rational_Sub _ _ (by omega), ?_⟩
          refine hK14 _ ?_
          refine rgnX_take 5 (fun K15 hK15 => ?_)
          simp (disch := omega) only [go_sem]
          refine ⟨_, c_rational_Sub _ _ (by omega), ?_⟩
          refine hK15 _ ?_
          refine rgnX_take 3 (fun K16 hK16 => ?_)
          simp (disch := omega) only [go_sem]
          refine ⟨_, c_radical_plain _ _ _ (by omega), ?_⟩
          refine hK16 _ ?_
          simp (disch := omega) only [go_sem]
          refine hK13 _ ?_
          clear hK16 K16 hK15 K15 hK14 K14 hK13 K13
          refine pwp_ret ?_
          refine r_then ?_
          refine ⟨Or.inr rfl, ?_⟩
          simp (disch := omega) only [go_sem]
          first | (subst h0; subst hb0; exact (cmpR_0 hc hc').symm) | (subst h0; subst hb0; exact cmpR_0 hc hc') | rfl | exact (cmpR_ap hc hc' (by assumption)).symm | (have e : c = c' := (by assumption); subst e; exact cmpR_same hc)
        · first | replace hb2 := of_decide_eq_true hb2 | replace hb2 := of_decide_eq_false hb2 | skip
          refine pwp_skip ?_
          refine n_then ?_
          refine pwx_sr 0 [] (by rfl) (fun K17 hK17 => ?_)
          refine rgnX_take 3 (fun K18 hK18 => ?_)
          simp (disch := omega) only [go_sem]
          refine ⟨_, c_radical_Sub _ _ _ _ _ _ (by omega), ?_⟩
          refine hK18 _ ?_
          refine rgnX_take 1 (fun K19 hK19 => ?_)
          simp (disch := omega) only [go_sem]
          refine ⟨_, c_radical_Sign _ _ _ _ _ _ (by omega), ?_⟩
          refine hK19 _ ?_
          simp (disch := omega) only [go_sem]
          refine hK17 _ ?_
          clear hK19 K19 hK18 K18 hK17 K17
          refine pwp_ret ?_
          refine ⟨Or.inr rfl, ?_⟩
          simp (disch := omega) only [go_sem]
          first | (subst h0; subst hb0; exact (cmpR_0 hc hc').symm) | (subst h0; subst hb0; exact cmpR_0 hc hc') | rfl | exact (cmpR_ap hc hc' (by assumption)).symm | (have e : c = c' := (by assumption); subst e; exact cmpR_same hc)
  · refine pwx_sr 0 [some 7, some 8, some 9, some 10, some 11, some 12, some 13, some 14, some 15, some 16] (by rfl) (fun K20 hK20 => ?_)
    refine rgnX_take 3 (fun K21 hK21 => ?_)
    simp (disch := omega) only [go_sem]
    refine ⟨_, c_rational_Sign _, ?_⟩
    refine hK21 _ ?_
    refine rgnX_take 5 (fun K22 hK22 => ?_)
    simp (disch := omega) only [go_sem]
    first | refine ⟨_, c_rational_Sign _, ?_⟩ | skip
    refine hK22 _ ?_
    simp (disch := omega) only [go_sem]
    refine hK20 _ ?_
    clear hK22 K22 hK21 K21 hK20 K20
    refine pwp_cond (b := false) (by rfl) (fun h => nomatch h) (fun _ => ?_)
    refine pwp_skip ?_
    refine n_then ?_
    refine pwp_seq ?_
    refine pwx_sr 0 [] (by rfl) (fun K23 hK23 => ?_)
    refine rgnX_take 3 (fun K24 hK24 => ?_)
    simp (disch := omega) only [go_sem]
    refine ⟨_, c_radical_apart _ _ _ _ _ _ (by omega), ?_⟩
    refine hK24 _ ?_
    simp (disch := omega) only [go_sem]
    refine hK23 _ ?_
    clear hK24 K24 hK23 K23
    refine pwx_sr 0 [] (by rfl) (fun K25 hK25 => ?_)
    simp (disch := omega) only [go_sem]
    refine hK25 _ ?_
    clear hK25 K25
    refine pwp_cond (b := _) (by rfl) (fun hb4 => ?_) (fun hb4 => ?_)
    · first | replace hb4 := of_decide_eq_true hb4 | replace hb4 := of_decide_eq_false hb4 | skip
      refine pwx_sr 0 [] (by rfl) (fun K26 hK26 => ?_)
      simp (disch := omega) only [go_sem]
      refine hK26 _ ?_
      clear hK26 K26
      refine pwp_ret ?_
      refine r_then ?_
      refine ⟨Or.inr rfl, ?_⟩
      simp (disch := omega) only [go_sem]
      first | (subst h0; subst hb0; exact (cmpR_0 hc hc').symm) | (subst h0; subst hb0; exact cmpR_0 hc hc') | rfl | exact (cmpR_ap hc hc' (by assumption)).symm | (have e : c = c' := (by assumption); subst e; exact cmpR_same hc)
    · first | replace hb4 := of_decide_eq_true hb4 | replace hb4 := of_decide_eq_false hb4 | skip
      refine pwp_skip ?_
      refine n_then ?_
      refine pwp_seq ?_
      refine pwx_sr 0 [] (by rfl) (fun K27 hK27 => ?_)
      refine rgnX_take 5 (fun K28 hK28 => ?_)
      simp (disch := omega) only [go_sem]
      refine ⟨_, c_rational_Cmp _ _ (by omega), ?_⟩
      refine hK28 _ ?_
      simp (disch := omega) only [go_sem]
      refine hK27 _ ?_
      clear hK28 K28 hK27 K27
      refine pwp_cond (b := _) (by rfl) (fun hb5 => ?_) (fun hb5 => ?_)
      · first | replace hb5 := of_decide_eq_true hb5 | replace hb5 := of_decide_eq_false hb5 | skip
        refine pwx_sd Tryz.mixed 0 [] (by rfl) [] (by kernel_rfl) (by simp) (fun K29 hK29 => ?_)
        refine rgnX_take 5 (fun K30 hK30 => ?_)
        simp (disch := omega) only [go_sem]
        refine ⟨_, c_rational_Sub _ _ (by omega), ?_⟩
        refine hK30 _ ?_
        refine rgnX_take 5 (fun K31 hK31 => ?_)
        simp (disch := omega) only [go_sem]
        refine ⟨_, c_rational_Sub _ _ (by omega), ?_⟩
        refine hK31 _ ?_
        refine rgnX_take 3 (fun K32 hK32 => ?_)
        simp (disch := omega) only [go_sem]
        refine ⟨_, c_radical_plain _ _ _ (by omega), ?_⟩
        refine hK32 _ ?_
        simp (disch := omega) only [go_sem]
        refine hK29 _ ?_
        clear hK32 K32 hK31 K31 hK30 K30 hK29 K29
        refine pwp_ret ?_
        refine r_then ?_
        refine ⟨Or.inr rfl, ?_⟩
        simp (disch := omega) only [go_sem]
        first | (subst h0; subst hb0; exact (cmpR_0 hc hc').symm) | (subst h0; subst hb0; exact cmpR_0 hc hc') | rfl | exact (cmpR_ap hc hc' (by assumption)).symm | (have e : c = c' := (by assumption); subst e; exact cmpR_same hc)
      · first | replace hb5 := of_decide_eq_true hb5 | replace hb5 := of_decide_eq_false hb5 | skip
        refine pwp_skip ?_
        refine n_then ?_
        refine pwx_sr 0 [] (by rfl) (fun K33 hK33 => ?_)
        refine rgnX_take 3 (fun K34 hK34 => ?_)
        simp (disch := omega) only [go_sem]
        refine ⟨_, c_radical_Sub _ _ _ _ _ _ (by omega), ?_⟩
        refine hK34 _ ?_
        refine rgnX_take 1 (fun K35 hK35 => ?_)
        simp (disch := omega) only [go_sem]
        refine ⟨_, c_radical_Sign _ _ _ _ _ _ (by omega), ?_⟩
        refine hK35 _ ?_
        simp (disch := omega) only [go_sem]
        refine hK33 _ ?_
        clear hK35 K35 hK34 K34 hK33 K33
        refine pwp_ret ?_
        refine ⟨Or.inr rfl, ?_⟩
        simp (disch := omega) only [go_sem]
        first | (subst h0; subst hb0; exact (cmpR_0 hc hc').symm) | (subst h0; subst hb0; exact cmpR_0 hc hc') | rfl | exact (cmpR_ap hc hc' (by assumption)).symm | (have e : c = c' := (by assumption); subst e; exact cmpR_same hc)

end Go.Proofs.YtdojhoegildiaaaGreat

set_option linter.unusedSimpArgs false
set_option linter.unusedVariables false
set_option maxRecDepth 20000
namespace Go.Proofs.YtdojhoegildiaaaGreat
open Go Go.PL Go.RL
set_option maxHeartbeats 4000000 in
theorem c_swarfref05_two (a b m : Rat) {k l o : Nat} [SzR a k] [SzR b l] [SzR m o] (hk : k + l + o ≤ 40000) :
    Ret Tryz.prog 45 [.a (ratC a), .a (ratC b), .a (ratC m)] (.e (.c (.int .i64 (two a b m)))) := by
  refine ret_of_body (md := {}) Tryz.func45 (by kernel_rfl) rfl ?_
  simp only [Tryz.f45, List.map_cons, List.map_nil, List.length_cons, List.length_nil, Nat.zero_add, Nat.reduceAdd, Nat.reduceSub, List.reduceReplicate, List.cons_append, List.nil_append]
  have h1 := mul_bd (sgnQ_bd b) (sgnQ_bd m)
  have h2 := mul_bd (sgnQ_bd a) (cmpQ_bd (a * a) (b * b * m))
  refine pwx_sr 3 [] (by rfl) (fun K1 hK1 => ?_)
  simp (disch := omega) only [go_sem]
  refine hK1 _ ?_
  clear hK1 K1
  refine pwx_sd Tryz.mixed 0 [] (by rfl) [] (by kernel_rfl) (by simp) (fun K2 hK2 => ?_)
  refine rgnX_take 2 (fun K3 hK3 => ?_)
  simp (disch := omega) only [go_sem]
  refine ⟨_, c_swarfref02_Sign _, ?_⟩
  refine hK3 _ ?_
  refine rgnX_take 2 (fun K4 hK4 => ?_)
  simp (disch := omega) only [go_sem]
  refine ⟨_, c_swarfref02_Sign _, ?_⟩
  refine hK4 _ ?_
  refine rgnX_take 2 (fun K5 hK5 => ?_)
  simp (disch := omega) only [go_sem]
  refine ⟨_, c_swarfref02_Sign _, ?_⟩
  refine hK5 _ ?_
  simp (disch := omega) only [go_sem]
  refine hK2 _ ?_
  clear hK5 K5 hK4 K4 hK3 K3 hK2 K2
  refine pwp_seq ?_
  rcases Classical.em (a = 0) with ha | ha <;> rcases Classical.em (sgnQ b * sgnQ m = 0) with hb | hb
  · refine pwx_sr 0 [some 16, some 17, some 18, some 19, some 20, some 21, some 22, some 23, some 24, some 25, some 26] (by rfl) (fun K6 hK6 => ?_)
    simp (disch := omega) only [go_sem, ha, hb, decide_true]
    refine hK6 _ ?_
    clear hK6 K6
    refine pwp_cond (b := true) (by rfl) (fun _ => ?_) (fun h => nomatch h)
    refine pwp_seq ?_
    refine pwx_sr 0 [] (by rfl) (fun K7 hK7 => ?_)
    simp (disch := omega) only [go_sem]
    refine hK7 _ ?_
    clear hK7 K7
    refine pwp_cond (b := _) (by rfl) (fun hb1 => ?_) (fun hb1 => ?_)
    · first
      | (exfalso; simp at hb1; done)
      | (refine pwx_sr 0 [] (by rfl) (fun K8 hK8 => ?_)
         simp (disch := omega) only [go_sem]
         refine hK8 _ ?_
         clear hK8 K8
         refine pwp_ret ?_
         refine r_then ?_
         refine r_then ?_
         refine ⟨Or.inr rfl, ?_⟩
         simp (disch := omega) only [go_sem]
         first | exact two_r1 (by rw [sgnQ_eqz]; exact ha) | exact (two_r1 (by rw [sgnQ_eqz]; exact ha)).trans hb | exact two_1 hb | exact two_2 (by assumption) | exact two_4 hb (by assumption) (by rw [sgnQ_eqz]; exact ha) | (rw [two_2 (by assumption)]; first | rfl | assumption))
    · first
      | (exfalso; simp at hb1; done)
      | (refine pwp_skip ?_
         refine n_then ?_
         refine pwx_sr 0 [] (by rfl) (fun K9 hK9 => ?_)
         simp (disch := omega) only [go_sem]
         refine hK9 _ ?_
         clear hK9 K9
         refine pwp_ret ?_
         refine r_then ?_
         refine ⟨Or.inr rfl, ?_⟩
         simp (disch := omega) only [go_sem]
         first | exact two_r1 (by rw [sgnQ_eqz]; exact ha) | exact (two_r1 (by rw [sgnQ_eqz]; exact ha)).trans hb | exact two_1 hb | exact two_2 (by assumption) | exact two_4 hb (by assumption) (by rw [sgnQ_eqz]; exact ha) | (rw [two_2 (by assumption)]; first | rfl | assumption))
  · refine pwx_sr 0 [some 16, some 17, some 18, some 19, some 20, some 21, some 22, some 23, some 24, some 25, some 26] (by rfl) (fun K10 hK10 => ?_)
    simp (disch := omega) only [go_sem, ha, hb, decide_true]
    refine hK10 _ ?_
    clear hK10 K10
    refine pwp_cond (b := true) (by rfl) (fun _ => ?_) (fun h => nomatch h)
    refine pwp_seq ?_
    refine pwx_sr 0 [] (by rfl) (fun K11 hK11 => ?_)
    simp (disch := omega) only [go_sem]
    refine hK11 _ ?_
    clear hK11 K11
    refine pwp_cond (b := _) (by rfl) (fun hb3 => ?_) (fun hb3 => ?_)
    · first
      | (exfalso; simp at hb3; done)
      | (refine pwx_sr 0 [] (by rfl) (fun K12 hK12 => ?_)
         simp (disch := omega) only [go_sem]
         refine hK12 _ ?_
         clear hK12 K12
         refine pwp_ret ?_
         refine r_then ?_
         refine r_then ?_
         refine ⟨Or.inr rfl, ?_⟩
         simp (disch := omega) only [go_sem]
         first | exact two_r1 (by rw [sgnQ_eqz]; exact ha) | exact (two_r1 (by rw [sgnQ_eqz]; exact ha)).trans hb | exact two_1 hb | exact two_2 (by assumption) | exact two_4 hb (by assumption) (by rw [sgnQ_eqz]; exact ha) | (rw [two_2 (by assumption)]; first | rfl | assumption))
    · first
      | (exfalso; simp at hb3; done)
      | (refine pwp_skip ?_
         refine n_then ?_
         refine pwx_sr 0 [] (by rfl) (fun K13 hK13 => ?_)
         simp (disch := omega) only [go_sem]
         refine hK13 _ ?_
         clear hK13 K13
         refine pwp_ret ?_
         refine r_then ?_
         refine ⟨Or.inr rfl, ?_⟩
         simp (disch := omega) only [go_sem]
         first | exact two_r1 (by rw [sgnQ_eqz]; exact ha) | exact (two_r1 (by rw [sgnQ_eqz]; exact ha)).trans hb | exact two_1 hb | exact two_2 (by assumption) | exact two_4 hb (by assumption) (by rw [sgnQ_eqz]; exact ha) | (rw [two_2 (by assumption)]; first | rfl | assumption))
  · refine pwx_sr 0 [some 16, some 17, some 18, some 19, some 20, some 21, some 22, some 23, some 24, some 25, some 26] (by rfl) (fun K14 hK14 => ?_)
    simp (disch := omega) only [go_sem, ha, hb, decide_true]
    refine hK14 _ ?_
    clear hK14 K14
    refine pwp_cond (b := true) (by rfl) (fun _ => ?_) (fun h => nomatch h)
    refine pwp_seq ?_
    refine pwx_sr 0 [] (by rfl) (fun K15 hK15 => ?_)
    simp (disch := omega) only [go_sem]
    refine hK15 _ ?_
    clear hK15 K15
    refine pwp_cond (b := _) (by rfl) (fun hb5 => ?_) (fun hb5 => ?_)
    · first
      | (exfalso; simp at hb5; done)
      | (refine pwx_sr 0 [] (by rfl) (fun K16 hK16 => ?_)
         simp (disch := omega) only [go_sem]
         refine hK16 _ ?_
         clear hK16 K16
         refine pwp_ret ?_
         refine r_then ?_
         refine r_then ?_
         refine ⟨Or.inr rfl, ?_⟩
         simp (disch := omega) only [go_sem]
         first | exact two_r1 (by rw [sgnQ_eqz]; exact ha) | exact (two_r1 (by rw [sgnQ_eqz]; exact ha)).trans hb | exact two_1 hb | exact two_2 (by assumption) | exact two_4 hb (by assumption) (by rw [sgnQ_eqz]; exact ha) | (rw [two_2 (by assumption)]; first | rfl | assumption))
    · first
      | (exfalso; simp at hb5; done)
      | (refine pwp_skip ?_
         refine n_then ?_
         refine pwx_sr 0 [] (by rfl) (fun K17 hK17 => ?_)
         simp (disch := omega) only [go_sem]
         refine hK17 _ ?_
         clear hK17 K17
         refine pwp_ret ?_
         refine r_then ?_
         refine ⟨Or.inr rfl, ?_⟩
         simp (disch := omega) only [go_sem]
         first | exact two_r1 (by rw [sgnQ_eqz]; exact ha) | exact (two_r1 (by rw [sgnQ_eqz]; exact ha)).trans hb | exact two_1 hb | exact two_2 (by assumption) | exact two_4 hb (by assumption) (by rw [sgnQ_eqz]; exact ha) | (rw [two_2 (by assumption)]; first | rfl | assumption))
  · refine pwx_sr 0 [some 16, some 17, some 18, some 19, some 20, some 21, some 22, some 23, some 24, some 25, some 26] (by rfl) (fun K18 hK18 => ?_)
    simp (disch := omega) only [go_sem, ha, hb, decide_true]
    refine hK18 _ ?_
    clear hK18 K18
    refine pwp_cond (b := _) (by rfl) (fun hb6 => ?_) (fun hb6 => ?_)
    · first | replace hb6 := of_decide_eq_true hb6 | replace hb6 := of_decide_eq_false hb6 | skip
      refine pwp_seq ?_
      refine pwx_sr 0 [] (by rfl) (fun K19 hK19 => ?_)
      simp (disch := omega) only [go_sem]
      refine hK19 _ ?_
      clear hK19 K19
      refine pwp_cond (b := _) (by rfl) (fun hb7 => ?_) (fun hb7 => ?_)
      · first
        | (exfalso; simp at hb7; done)
        | (refine pwx_sr 0 [] (by rfl) (fun K20 hK20 => ?_)
           simp (disch := omega) only [go_sem]
           refine hK20 _ ?_
           clear hK20 K20
           refine pwp_ret ?_
           refine r_then ?_
           refine r_then ?_
           refine ⟨Or.inr rfl, ?_⟩
           simp (disch := omega) only [go_sem]
           first | exact two_r1 (by rw [sgnQ_eqz]; exact ha) | exact (two_r1 (by rw [sgnQ_eqz]; exact ha)).trans hb | exact two_1 hb | exact two_2 (by assumption) | exact two_4 hb (by assumption) (by rw [sgnQ_eqz]; exact ha) | (rw [two_2 (by assumption)]; first | rfl | assumption))
      · first
        | (exfalso; simp at hb7; done)
        | (refine pwp_skip ?_
           refine n_then ?_
           refine pwx_sr 0 [] (by rfl) (fun K21 hK21 => ?_)
           simp (disch := omega) only [go_sem]
           refine hK21 _ ?_
           clear hK21 K21
           refine pwp_ret ?_
           refine r_then ?_
           refine ⟨Or.inr rfl, ?_⟩
           simp (disch := omega) only [go_sem]
           first | exact two_r1 (by rw [sgnQ_eqz]; exact ha) | exact (two_r1 (by rw [sgnQ_eqz]; exact ha)).trans hb | exact two_1 hb | exact two_2 (by assumption) | exact two_4 hb (by assumption) (by rw [sgnQ_eqz]; exact ha) | (rw [two_2 (by assumption)]; first | rfl | assumption))
    · first | replace hb6 := of_decide_eq_true hb6 | replace hb6 := of_decide_eq_false hb6 | skip
      refine pwp_skip ?_
      refine n_then ?_
      refine pwx_sd Tryz.mixed 0 [] (by rfl) [] (by kernel_rfl) (by simp) (fun K22 hK22 => ?_)
      refine rgnX_take 4 (fun K23 hK23 => ?_)
      simp (disch := omega) only [go_sem]
      refine ⟨_, c_swarfref02_Mul _ _ (by omega), ?_⟩
      refine hK23 _ ?_
      refine rgnX_take 3 (fun K24 hK24 => ?_)
      simp (disch := omega) only [go_sem]
      refine ⟨_, c_swarfref02_Mul _ _ (by omega), ?_⟩
      refine hK24 _ ?_
      refine rgnX_take 2 (fun K25 hK25 => ?_)
      simp (disch := omega) only [go_sem]
      refine ⟨_, c_swarfref02_Mul _ _ (by omega), ?_⟩
      refine hK25 _ ?_
      refine rgnX_take 1 (fun K26 hK26 => ?_)
      simp (disch := omega) only [go_sem]
      refine ⟨_, c_swarfref02_Cmp _ _ (by omega), ?_⟩
      refine hK26 _ ?_
      simp (disch := omega) only [go_sem]
      refine hK22 _ ?_
      clear hK26 K26 hK25 K25 hK24 K24 hK23 K23 hK22 K22
      refine pwp_ret ?_
      refine ⟨Or.inr rfl, ?_⟩
      simp (disch := omega) only [go_sem]
      first | exact two_r1 (by rw [sgnQ_eqz]; exact ha) | exact (two_r1 (by rw [sgnQ_eqz]; exact ha)).trans hb | exact two_1 hb | exact two_2 (by assumption) | exact two_4 hb (by assumption) (by rw [sgnQ_eqz]; exact ha) | (rw [two_2 (by assumption)]; first | rfl | assumption)
set_option maxHeartbeats 4000000 in
theorem c_swarfref05_Sign (A B C D M N : Rat) {kA kB kC kD kM kN : Nat} [SzR A kA] [SzR B kB] [SzR C kC] [SzR D kD] [SzR M kM] [SzR N kN] (hk : kA + kB + kC + kD + kM + kN ≤ 5000) :
    Ret Tryz.prog 13 [.a (ratC A ++ (ratC B ++ (ratC C ++ (ratC D ++ (ratC M ++ ratC N)))))] (.e (.c (.int .i64 (quad A B C D M N)))) := by
  refine ret_of_body (md := {}) Tryz.func13 (by kernel_rfl) rfl ?_
  simp only [Tryz.f13, List.map_cons, List.map_nil, List.length_cons, List.length_nil, Nat.zero_add, Nat.reduceAdd, Nat.reduceSub, List.reduceReplicate, List.cons_append, List.nil_append]
  have b1 := two_bd A B M
  have b2 := two_bd C D M
  have b3 := mul_bd b2 (sgnQ_bd N)
  have b4 := mul_bd b1 (two_bd (A * A + B * B * M - N * (C * C + D * D * M)) ((A * B - N * (C * D)) + (A * B - N * (C * D))) M)
  refine pwx_sr 1 [] (by rfl) (fun K1 hK1 => ?_)
  simp (disch := omega) only [go_sem]
  refine hK1 _ ?_
  clear hK1 K1
  refine pwp_seq ?_
  by_cases h0 : M < 0
  · refine pwx_sr 0 [some 8, some 9, some 10, some 11, some 12, some 13, some 14, some 15, some 16, some 17] (by rfl) (fun K2 hK2 => ?_)
    refine rgnX_take 3 (fun K3 hK3 => ?_)
    simp (disch := omega) only [go_sem]
    refine ⟨_, c_swarfref02_Sign _, ?_⟩
    refine hK3 _ ?_
    refine rgnX_take 5 (fun K4 hK4 => ?_)
    simp (disch := omega) only [go_sem]
    first | refine ⟨_, c_swarfref02_Sign _, ?_⟩ | skip
    refine hK4 _ ?_
    simp (disch := omega) only [go_sem]
    refine hK2 _ ?_
    clear hK4 K4 hK3 K3 hK2 K2
    refine pwp_cond (b := true) (by rfl) (fun _ => ?_) (fun h => nomatch h)
    refine pwx_sr 0 [] (by rfl) (fun K5 hK5 => ?_)
    simp (disch := omega) only [go_sem]
    refine hK5 _ ?_
    clear hK5 K5
    refine pwp_ret ?_
    refine r_then ?_
    refine ⟨Or.inr rfl, ?_⟩
    simp (disch := omega) only [go_sem]
    exact quad_0 (.inl h0)
  · refine pwx_sr 0 [some 8, some 9, some 10, some 11, some 12, some 13, some 14, some 15, some 16, some 17] (by rfl) (fun K6 hK6 => ?_)
    refine rgnX_take 3 (fun K7 hK7 => ?_)
    simp (disch := omega) only [go_sem]
    refine ⟨_, c_swarfref02_Sign _, ?_⟩
    refine hK7 _ ?_
    refine rgnX_take 5 (fun K8 hK8 => ?_)
    simp (disch := omega) only [go_sem]
    first | refine ⟨_, c_swarfref02_Sign _, ?_⟩ | skip
    refine hK8 _ ?_
    simp (disch := omega) only [go_sem]
    refine hK6 _ ?_
    clear hK8 K8 hK7 K7 hK6 K6
    refine pwp_cond (b := _) (by rfl) (fun hb1 => ?_) (fun hb1 => ?_)
    · first | replace hb1 := of_decide_eq_true hb1 | replace hb1 := of_decide_eq_false hb1 | skip
      refine pwx_sr 0 [] (by rfl) (fun K9 hK9 => ?_)
      simp (disch := omega) only [go_sem]
      refine hK9 _ ?_
      clear hK9 K9
      refine pwp_ret ?_
      refine r_then ?_
      refine ⟨Or.inr rfl, ?_⟩
      simp (disch := omega) only [go_sem]
      exact quad_0 (.inr hb1)
    · first | replace hb1 := of_decide_eq_true hb1 | replace hb1 := of_decide_eq_false hb1 | skip
      refine pwp_skip ?_
      refine n_then ?_
      refine pwx_sd Tryz.mixed 0 [] (by rfl) [] (by kernel_rfl) (by simp) (fun K10 hK10 => ?_)
      refine rgnX_take 7 (fun K11 hK11 => ?_)
      simp (disch := omega) only [go_sem]
      refine ⟨_, c_swarfref05_two _ _ _ (by omega), ?_⟩
      refine hK11 _ ?_
      refine rgnX_take 7 (fun K12 hK12 => ?_)
      simp (disch := omega) only [go_sem]
      refine ⟨_, c_swarfref05_two _ _ _ (by omega), ?_⟩
      refine hK12 _ ?_
      refine rgnX_take 3 (fun K13 hK13 => ?_)
      simp (disch := omega) only [go_sem]
      refine ⟨_, c_swarfref02_Sign _, ?_⟩
      refine hK13 _ ?_
      simp (disch := omega) only [go_sem]
      refine hK10 _ ?_
      clear hK13 K13 hK12 K12 hK11 K11 hK10 K10
      refine pwp_seq ?_
      rcases Classical.em (two A B M = 0) with ha | ha <;> rcases Classical.em (two C D M * sgnQ N = 0) with hb | hb
      · refine pwx_sr 0 [some 36, some 37, some 38, some 39, some 40, some 41, some 42, some 43, some 44, some 45, some 46] (by rfl) (fun K14 hK14 => ?_)
        simp (disch := omega) only [go_sem, ha, hb, decide_true]
        refine hK14 _ ?_
        clear hK14 K14
        refine pwp_cond (b := true) (by rfl) (fun _ => ?_) (fun h => nomatch h)
        refine pwp_seq ?_
        refine pwx_sr 0 [] (by rfl) (fun K15 hK15 => ?_)
        simp (disch := omega) only [go_sem, ha, decide_true]
        refine hK15 _ ?_
        clear hK15 K15
        refine pwp_cond (b := true) (by rfl) (fun _ => ?_) (fun h => nomatch h)
        refine pwx_sr 0 [] (by rfl) (fun K16 hK16 => ?_)
        simp (disch := omega) only [go_sem]
        refine hK16 _ ?_
        clear hK16 K16
        refine pwp_ret ?_
        refine r_then ?_
        refine r_then ?_
        refine ⟨Or.inr rfl, ?_⟩
        simp (disch := omega) only [go_sem]
        exact (quad_3 h0 hb1 ha).trans hb
      · refine pwx_sr 0 [some 36, some 37, some 38, some 39, some 40, some 41, some 42, some 43, some 44, some 45, some 46] (by rfl) (fun K17 hK17 => ?_)
        simp (disch := omega) only [go_sem, ha, hb, decide_true]
        refine hK17 _ ?_
        clear hK17 K17
        refine pwp_cond (b := true) (by rfl) (fun _ => ?_) (fun h => nomatch h)
        refine pwp_seq ?_
        refine pwx_sr 0 [] (by rfl) (fun K18 hK18 => ?_)
        simp (disch := omega) only [go_sem, ha, decide_true]
        refine hK18 _ ?_
        clear hK18 K18
        refine pwp_cond (b := true) (by rfl) (fun _ => ?_) (fun h => nomatch h)
        refine pwx_sr 0 [] (by rfl) (fun K19 hK19 => ?_)
        simp (disch := omega) only [go_sem]
        refine hK19 _ ?_
        clear hK19 K19
        refine pwp_ret ?_
        refine r_then ?_
        refine r_then ?_
        refine ⟨Or.inr rfl, ?_⟩
        simp (disch := omega) only [go_sem]
        exact quad_3 h0 hb1 ha
      · refine pwx_sr 0 [some 36, some 37, some 38, some 39, some 40, some 41, some 42, some 43, some 44, some 45, some 46] (by rfl) (fun K20 hK20 => ?_)
        simp (disch := omega) only [go_sem, ha, hb, decide_true]
        refine hK20 _ ?_
        clear hK20 K20
        refine pwp_cond (b := true) (by rfl) (fun _ => ?_) (fun h => nomatch h)
        refine pwp_seq ?_
        refine pwx_sr 0 [] (by rfl) (fun K21 hK21 => ?_)
        simp (disch := omega) only [go_sem, ha, decide_true]
        refine hK21 _ ?_
        clear hK21 K21
        refine pwp_cond (b := false) (by rfl) (fun h => nomatch h) (fun _ => ?_)
        refine pwp_skip ?_
        refine n_then ?_
        refine pwx_sr 0 [] (by rfl) (fun K22 hK22 => ?_)
        simp (disch := omega) only [go_sem]
        refine hK22 _ ?_
        clear hK22 K22
        refine pwp_ret ?_
        refine r_then ?_
        refine ⟨Or.inr rfl, ?_⟩
        simp (disch := omega) only [go_sem]
        exact quad_1 h0 hb1 hb
      · refine pwx_sr 0 [some 36, some 37, some 38, some 39, some 40, some 41, some 42, some 43, some 44, some 45, some 46] (by rfl) (fun K23 hK23 => ?_)
        simp (disch := omega) only [go_sem, ha, hb, decide_true]
        refine hK23 _ ?_
        clear hK23 K23
        refine pwp_cond (b := _) (by rfl) (fun hb8 => ?_) (fun hb8 => ?_)
        · first | replace hb8 := of_decide_eq_true hb8 | replace hb8 := of_decide_eq_false hb8 | skip
          refine pwp_seq ?_
          refine pwx_sr 0 [] (by rfl) (fun K24 hK24 => ?_)
          simp (disch := omega) only [go_sem, ha, decide_true]
          refine hK24 _ ?_
          clear hK24 K24
          refine pwp_cond (b := false) (by rfl) (fun h => nomatch h) (fun _ => ?_)
          refine pwp_skip ?_
          refine n_then ?_
          refine pwx_sr 0 [] (by rfl) (fun K25 hK25 => ?_)
          simp (disch := omega) only [go_sem]
          refine hK25 _ ?_
          clear hK25 K25
          refine pwp_ret ?_
          refine r_then ?_
          refine ⟨Or.inr rfl, ?_⟩
          simp (disch := omega) only [go_sem]
          first | exact quad_2 h0 hb1 (by assumption) | exact quad_r4 h0 hb1 hb (by assumption) ha
        · first | replace hb8 := of_decide_eq_true hb8 | replace hb8 := of_decide_eq_false hb8 | skip
          refine pwp_skip ?_
          refine n_then ?_
          refine pwx_sd Tryz.mixed 1 [] (by rfl) [] (by kernel_rfl) (by simp) (fun K26 hK26 => ?_)
          refine rgnX_take 7 (fun K27 hK27 => ?_)
          simp (disch := omega) only [go_sem]
          refine ⟨_, c_swarfref02_Mul _ _ (by omega), ?_⟩
          refine hK27 _ ?_
          refine rgnX_take 5 (fun K28 hK28 => ?_)
          simp (disch := omega) only [go_sem]
          refine ⟨_, c_swarfref02_Mul _ _ (by omega), ?_⟩
          refine hK28 _ ?_
          refine rgnX_take 3 (fun K29 hK29 => ?_)
          simp (disch := omega) only [go_sem]
          refine ⟨_, c_swarfref02_Mul _ _ (by omega), ?_⟩
          refine hK29 _ ?_
          refine rgnX_take 1 (fun K30 hK30 => ?_)
          simp (disch := omega) only [go_sem]
          refine ⟨_, c_swarfref02_Add _ _ (by omega), ?_⟩
          refine hK30 _ ?_
          refine rgnX_take 1 (fun K31 hK31 => ?_)
          simp (disch := omega) only [go_sem]
          refine ⟨_, c_swarfref02_Mul _ _ (by omega), ?_⟩
          refine hK31 _ ?_
          simp (disch := omega) only [go_sem]
          refine hK26 _ ?_
          clear hK31 K31 hK30 K30 hK29 K29 hK28 K28 hK27 K27 hK26 K26
          refine pwx_sd Tryz.mixed 1 [] (by rfl) [] (by kernel_rfl) (by simp) (fun K32 hK32 => ?_)
          refine rgnX_take 5 (fun K33 hK33 => ?_)
          simp (disch := omega) only [go_sem]
          refine ⟨_, c_swarfref02_Mul _ _ (by omega), ?_⟩
          refine hK33 _ ?_
          refine rgnX_take 5 (fun K34 hK34 => ?_)
          simp (disch := omega) only [go_sem]
          refine ⟨_, c_swarfref02_Mul _ _ (by omega), ?_⟩
          refine hK34 _ ?_
          refine rgnX_take 3 (fun K35 hK35 => ?_)
          simp (disch := omega) only [go_sem]
          refine ⟨_, c_swarfref02_Mul _ _ (by omega), ?_⟩
          refine hK35 _ ?_
          refine rgnX_take 1 (fun K36 hK36 => ?_)
          simp (disch := omega) only [go_sem]
          refine ⟨_, c_swarfref02_Add _ _ (by omega), ?_⟩
          refine hK36 _ ?_
          refine rgnX_take 2 (fun K37 hK37 => ?_)
          simp (disch := omega) only [go_sem]
          refine ⟨_, c_swarfref02_Sub _ _ (by omega), ?_⟩
          refine hK37 _ ?_
          simp (disch := omega) only [go_sem]
          refine hK32 _ ?_
          clear hK37 K37 hK36 K36 hK35 K35 hK34 K34 hK33 K33 hK32 K32
          refine pwx_sd Tryz.mixed 1 [] (by rfl) [] (by kernel_rfl) (by simp) (fun K38 hK38 => ?_)
          refine rgnX_take 5 (fun K39 hK39 => ?_)
          simp (disch := omega) only [go_sem]
          refine ⟨_, c_swarfref02_Mul _ _ (by omega), ?_⟩
          refine hK39 _ ?_
          refine rgnX_take 7 (fun K40 hK40 => ?_)
          simp (disch := omega) only [go_sem]
          refine ⟨_, c_swarfref02_Mul _ _ (by omega), ?_⟩
          refine hK40 _ ?_
          refine rgnX_take 1 (fun K41 hK41 => ?_)
          simp (disch := omega) only [go_sem]
          refine ⟨_, c_swarfref02_Mul _ _ (by omega), ?_⟩
          refine hK41 _ ?_
          refine rgnX_take 1 (fun K42 hK42 => ?_)
          simp (disch := omega) only [go_sem]
          refine ⟨_, c_swarfref02_Sub _ _ (by omega), ?_⟩
          refine hK42 _ ?_
          simp (disch := omega) only [go_sem]
          refine hK38 _ ?_
          clear hK42 K42 hK41 K41 hK40 K40 hK39 K39 hK38 K38
          refine pwx_sd Tryz.mixed 0 [] (by rfl) [] (by kernel_rfl) (by simp) (fun K43 hK43 => ?_)
          refine rgnX_take 5 (fun K44 hK44 => ?_)
          simp (disch := omega) only [go_sem]
          refine ⟨_, c_swarfref02_Add _ _ (by omega), ?_⟩
          refine hK44 _ ?_
          refine rgnX_take 3 (fun K45 hK45 => ?_)
          simp (disch := omega) only [go_sem]
          refine ⟨_, c_swarfref05_two _ _ _ (by omega), ?_⟩
          refine hK45 _ ?_
          simp (disch := omega) only [go_sem]
          refine hK43 _ ?_
          clear hK45 K45 hK44 K44 hK43 K43
          refine pwp_ret ?_
          refine ⟨Or.inr rfl, ?_⟩
          simp (disch := omega) only [go_sem]
          first | exact quad_2 h0 hb1 (by assumption) | exact quad_r4 h0 hb1 hb (by assumption) ha
end Go.Proofs.YtdojhoegildiaaaGreat

set_option linter.unusedSimpArgs false
set_option linter.unusedVariables false
set_option maxRecDepth 20000
namespace Go.Proofs.YtdojhoegildiaaaGreat
open Go Go.PL Go.RL
set_option maxHeartbeats 4000000 in
theorem c_root_Floor (a b c : Rat) {k l m : Nat} [SzR a k] [SzR b l] [SzR c m] (hk : k + l + m ≤ 10000) :
    Ret Tryz.prog 104 [.a (ratC (a) ++ (ratC (b) ++ ratC (c)))] (.e (.a (intC (flR a b c)))) := by
  refine ret_of_body (md := {}) Tryz.func104 (by kernel_rfl) rfl ?_
  simp only [Tryz.f104, List.map_cons, List.map_nil, List.length_cons, List.length_nil, Nat.zero_add, Nat.reduceAdd, Nat.reduceSub, List.reduceReplicate, List.cons_append, List.nil_append]
  have hda := a.den_pos
  have hds := (b * b * c).den_pos
  have hdp := Nat.mul_pos hda hds
  refine pwx_sr 2 [] (by rfl) (fun K1 hK1 => ?_)
  simp (disch := omega) only [go_sem]
  refine hK1 _ ?_
  clear hK1 K1
  refine pwp_seq ?_
  refine pwx_sr 0 [] (by rfl) (fun K2 hK2 => ?_)
  refine rgnX_take 3 (fun K3 hK3 => ?_)
  simp (disch := omega) only [go_sem]
  refine ⟨_, c_rational_Sign _, ?_⟩
  refine hK3 _ ?_
  simp (disch := omega) only [go_sem]
  refine hK2 _ ?_
  clear hK3 K3 hK2 K2
  refine pwp_cond (b := _) (by rfl) (fun hb0 => ?_) (fun hb0 => ?_)
  · first | replace hb0 := of_decide_eq_true hb0 | replace hb0 := of_decide_eq_false hb0 | skip
    refine pwx_sr 0 [] (by rfl) (fun K4 hK4 => ?_)
    refine rgnX_take 3 (fun K5 hK5 => ?_)
    simp (disch := omega) only [go_sem]
    refine ⟨_, c_rational_Floor _ (by omega), ?_⟩
    refine hK5 _ ?_
    simp (disch := omega) only [go_sem]
    refine hK4 _ ?_
    clear hK5 K5 hK4 K4
    refine pwp_ret ?_
    refine r_then ?_
    refine ⟨Or.inr rfl, ?_⟩
    simp (disch := omega) only [go_sem]
    all_goals rw [flR_z hb0]
  · first | replace hb0 := of_decide_eq_true hb0 | replace hb0 := of_decide_eq_false hb0 | skip
    refine pwp_skip ?_
    refine n_then ?_
    refine pwx_sdH Tryz.mixed 1 [] (by rfl) [] [(1, 0), (3, 2), (19, 0), (21, 0), (24, 0)] (by kernel_rfl) (by kernel_rfl) (by simp) (by simp [HomeAt, St.pad]) (fun K6 hK6 => ?_)
    refine rgnX_take 5 (fun K7 hK7 => ?_)
    simp (disch := omega) only [go_sem]
    refine ⟨_, c_rational_Mul _ _ (by omega), ?_⟩
    refine hK7 _ ?_
    refine rgnX_take 3 (fun K8 hK8 => ?_)
    simp (disch := omega) only [go_sem]
    refine ⟨_, c_rational_Mul _ _ (by omega), ?_⟩
    refine hK8 _ ?_
    simp (disch := omega) only [go_sem]
    refine hK6 _ ?_
    clear hK8 K8 hK7 K7 hK6 K6
    refine pwx_sdH Tryz.mixed 2 [] (by rfl) [] [(1, 0), (3, 2), (4, 3), (5, 4), (27, 0), (28, 0), (30, 2)] (by kernel_rfl) (by kernel_rfl) (by simp) (by simp [HomeAt, St.pad]) (fun K9 hK9 => ?_)
    simp (disch := omega) only [go_sem]
    refine hK9 _ ?_
    clear hK9 K9
    refine pwx_sdH Tryz.mixed 1 [] (by rfl) [] [(3, 2), (4, 3), (5, 4), (6, 5), (35, 2)] (by kernel_rfl) (by kernel_rfl) (by simp) (by simp [HomeAt, St.pad]) (fun K10 hK10 => ?_)
    refine rgnX_take 3 (fun K11 hK11 => ?_)
    simp (disch := omega) only [go_sem]
    refine ⟨_, c_integer_Mul _ _ szi szi, ?_⟩
    refine hK11 _ ?_
    refine rgnX_take 4 (fun K12 hK12 => ?_)
    simp (disch := omega) only [go_sem]
    refine ⟨_, c_integer_Mul _ _ szi szi, ?_⟩
    refine hK12 _ ?_
    refine rgnX_take 1 (fun K13 hK13 => ?_)
    simp (disch := omega) only [go_sem]
    refine ⟨_, c_integer_Mul _ _ szi szi, ?_⟩
    refine hK13 _ ?_
    simp (disch := omega) only [go_sem]
    refine hK10 _ ?_
    clear hK13 K13 hK12 K12 hK11 K11 hK10 K10
    refine pwx_sr 1 [] (by rfl) (fun K14 hK14 => ?_)
    refine rgnX_take 2 (fun K15 hK15 => ?_)
    simp (disch := omega) only [go_sem]
    refine ⟨_, c_integer_Sqrt _ szi9, ?_⟩
    refine hK15 _ ?_
    simp (disch := omega) only [go_sem]
    refine hK14 _ ?_
    clear hK15 K15 hK14 K14
    refine pwp_seq ?_
    refine pwx_sr 0 [] (by rfl) (fun K16 hK16 => ?_)
    refine rgnX_take 3 (fun K17 hK17 => ?_)
    simp (disch := omega) only [go_sem]
    refine ⟨_, c_rational_Sign _, ?_⟩
    refine hK17 _ ?_
    simp (disch := omega) only [go_sem]
    refine hK16 _ ?_
    clear hK17 K17 hK16 K16
    refine pwp_cond (b := _) (by rfl) (fun hb1 => ?_) (fun hb1 => ?_)
    · first | replace hb1 := of_decide_eq_true hb1 | replace hb1 := of_decide_eq_false hb1 | skip
      refine pwx_drawH Tryz.mixed 0 [] (by rfl) [] [(7, 6)] (by kernel_rfl) (by kernel_rfl) (by simp) (by simp [HomeAt, St.pad]) (fun K18 hK18 => ?_)
      refine rgnX_take 2 (fun K19 hK19 => ?_)
      simp (disch := omega) only [go_sem]
      refine ⟨_, c_integer_FromInt64 _ (by omega) (by omega), ?_⟩
      refine hK19 _ ?_
      refine rgnX_take 1 (fun K20 hK20 => ?_)
      simp (disch := omega) only [go_sem]
      refine ⟨_, c_integer_Add _ _ szi szi, ?_⟩
      refine hK20 _ ?_
      refine rgnX_take 1 (fun K21 hK21 => ?_)
      simp (disch := omega) only [go_sem]
      refine ⟨_, c_integer_Neg _ szi, ?_⟩
      refine hK21 _ ?_
      simp (disch := omega) only [go_sem]
      refine hK18 _ ?_
      clear hK21 K21 hK20 K20 hK19 K19 hK18 K18
      refine n_then ?_
      refine pwx_sdH Tryz.mixed 2 [] (by rfl) [] [(1, 0), (4, 3), (5, 4), (7, 6), (9, 7), (10, 8), (54, 0), (55, 0)] (by kernel_rfl) (by kernel_rfl) (by simp) (by simp [HomeAt, St.pad]) (fun K22 hK22 => ?_)
      refine rgnX_take 5 (fun K23 hK23 => ?_)
      simp (disch := omega) only [go_sem]
      refine ⟨_, c_integer_Mul _ _ szi szi, ?_⟩
      refine hK23 _ ?_
      refine rgnX_take 2 (fun K24 hK24 => ?_)
      simp (disch := omega) only [go_sem]
      refine ⟨_, c_integer_Add _ _ szi szi, ?_⟩
      refine hK24 _ ?_
      refine rgnX_take 3 (fun K25 hK25 => ?_)
      simp (disch := omega) only [go_sem]
      refine ⟨_, c_integer_Mul _ _ szi szi, ?_⟩
      refine hK25 _ ?_
      refine rgnX_take 1 (fun K26 hK26 => ?_)
      simp (disch := omega) only [go_sem]
      refine ⟨_, c_integer_DivMod _ _ szi szi (by first | assumption | omega), ?_⟩
      refine hK26 _ ?_
      simp (disch := omega) only [go_sem]
      refine hK22 _ ?_
      clear hK26 K26 hK25 K25 hK24 K24 hK23 K23 hK22 K22
      refine pwx_sr 0 [] (by rfl) (fun K27 hK27 => ?_)
      simp (disch := omega) only [go_sem]
      refine hK27 _ ?_
      clear hK27 K27
      refine pwp_ret ?_
      refine ⟨Or.inr rfl, ?_⟩
      simp (disch := omega) only [go_sem]
      all_goals rw [flR_n hb0 hb1, Int.natCast_mul, Int.natCast_mul]
    · first | replace hb1 := of_decide_eq_true hb1 | replace hb1 := of_decide_eq_false hb1 | skip
      refine pwp_skip ?_
      refine n_then ?_
      refine pwx_sdH Tryz.mixed 2 [] (by rfl) [] [(1, 0), (4, 3), (5, 4), (7, 6), (9, 7), (10, 8), (54, 0), (55, 0)] (by kernel_rfl) (by kernel_rfl) (by simp) (by simp [HomeAt, St.pad]) (fun K28 hK28 => ?_)
      refine rgnX_take 5 (fun K29 hK29 => ?_)
      simp (disch := omega) only [go_sem]
      refine ⟨_, c_integer_Mul _ _ szi szi, ?_⟩
      refine hK29 _ ?_
      refine rgnX_take 2 (fun K30 hK30 => ?_)
      simp (disch := omega) only [go_sem]
      refine ⟨_, c_integer_Add _ _ szi szi, ?_⟩
      refine hK30 _ ?_
      refine rgnX_take 3 (fun K31 hK31 => ?_)
      simp (disch := omega) only [go_sem]
      refine ⟨_, c_integer_Mul _ _ szi szi, ?_⟩
      refine hK31 _ ?_
      refine rgnX_take 1 (fun K32 hK32 => ?_)
      simp (disch := omega) only [go_sem]
      refine ⟨_, c_integer_DivMod _ _ szi szi (by first | assumption | omega), ?_⟩
      refine hK32 _ ?_
      simp (disch := omega) only [go_sem]
      refine hK28 _ ?_
      clear hK32 K32 hK31 K31 hK30 K30 hK29 K29 hK28 K28
      refine pwx_sr 0 [] (by rfl) (fun K33 hK33 => ?_)
      simp (disch := omega) only [go_sem]
      refine hK33 _ ?_
      clear hK33 K33
      refine pwp_ret ?_
      refine ⟨Or.inr rfl, ?_⟩
      simp (disch := omega) only [go_sem]
      all_goals rw [flR_p hb0 hb1, Int.natCast_mul, Int.natCast_mul]

end Go.Proofs.YtdojhoegildiaaaGreat

namespace Go.PL
open Go.RL
/-- A point's radicand in reduced form. -/
def pC (b d c : Rat) : Rat := if b = 0 ∧ d = 0 then 0 else c
instance SzR.pC {b d c : Rat} {k : Nat} [h : SzR c k] : SzR (pC b d c) (1 + k) := SzR.ite
theorem pC_0 {b d c : Rat} (h : b = 0) (h' : d = 0) : pC b d c = 0 := if_pos ⟨h, h'⟩
theorem pC_1 {b d c : Rat} (h : ¬ b = 0) : pC b d c = c := if_neg fun q => h q.1
theorem pC_2 {b d c : Rat} (h : ¬ d = 0) : pC b d c = c := if_neg fun q => h q.2
theorem rC_0 {b c : Rat} (h : b = 0) : rC b c = 0 := if_pos h
theorem rC_1 {b c : Rat} (h : ¬ b = 0) : rC b c = c := if_neg h
theorem rC_nn {b c : Rat} (h : 0 ≤ c) : 0 ≤ rC b c := by
  unfold rC; split
  · exact Rat.le_refl
  · exact h
theorem rK_0 {b c c' : Rat} (h : b = 0) : rK b c c' = c' := if_pos h
theorem rK_1 {b c c' : Rat} (h : ¬ b = 0) : rK b c c' = c := if_neg h
/-- The order of two points. -/
def cmpP (a b d e c a' b' d' e' c' : Rat) : Int :=
  if cmpR a b (rC b c) a' b' (rC b' c') ≠ 0 then cmpR a b (rC b c) a' b' (rC b' c') else cmpR d e (rC e c) d' e' (rC e' c')
theorem cmpP_0 {a b d e c a' b' d' e' c' : Rat} (h : cmpR a b (rC b c) a' b' (rC b' c') = 0) : cmpP a b d e c a' b' d' e' c' = cmpR d e (rC e c) d' e' (rC e' c') := if_neg (by rw [h]; simp)
theorem cmpP_1 {a b d e c a' b' d' e' c' : Rat} (h : ¬ cmpR a b (rC b c) a' b' (rC b' c') = 0) : cmpP a b d e c a' b' d' e' c' = cmpR a b (rC b c) a' b' (rC b' c') := if_pos h
/-- The square of a distance: its parts. -/
def sqA (a b d e c v w : Rat) : Rat := (a - v) * (a - v) + (d - w) * (d - w) + (b * b + e * e) * c
def sqB2 (a b d e v w : Rat) : Rat := (a - v) * b + (d - w) * e + ((a - v) * b + (d - w) * e)
/-- Is a point of valid numbers in reduced form? -/
def vldP (b e c : Rat) : Bool := if b = 0 ∧ e = 0 then decide (c = 0) else decide (0 < c) && !sqB c
theorem vldP_0 {b e c : Rat} (h : b = 0) (h' : e = 0) : vldP b e c = decide (c = 0) := if_pos ⟨h, h'⟩
theorem vldP_1 {b e c : Rat} (h : ¬ b = 0) : vldP b e c = (decide (0 < c) && !sqB c) := if_neg fun q => h q.1
theorem vldP_2 {b e c : Rat} (h : ¬ e = 0) : vldP b e c = (decide (0 < c) && !sqB c) := if_neg fun q => h q.2
theorem five {a b c d e : Bool} : a = false ∨ (a = true ∧ b = false) ∨ (a = true ∧ b = true ∧ c = false) ∨ (a = true ∧ b = true ∧ c = true ∧ d = false) ∨ (a = true ∧ b = true ∧ c = true ∧ d = true ∧ e = false) ∨ (a = true ∧ b = true ∧ c = true ∧ d = true ∧ e = true) := by
  cases a <;> cases b <;> cases c <;> cases d <;> cases e <;> simp
theorem r3_rC {b c : Rat} (h : b = 0 ∨ ¬ c = 0) : r3B b c = b ∧ r3C b c = rC b c := by
  by_cases hb : b = 0
  · simp [r3B, r3C, rC, hb]
  · have hc : ¬ c = 0 := h.resolve_left hb
    simp [r3B, r3C, rC, hb, hc]
theorem five_f {a b c d e : Bool} (h : ¬ (a = true ∧ b = true ∧ c = true ∧ d = true ∧ e = true)) : a = false ∨ (a = true ∧ b = false) ∨ (a = true ∧ b = true ∧ c = false) ∨ (a = true ∧ b = true ∧ c = true ∧ d = false) ∨ (a = true ∧ b = true ∧ c = true ∧ d = true ∧ e = false) := by
  cases a <;> cases b <;> cases c <;> cases d <;> cases e <;> simp_all
theorem nzi_t {n : Int} (h : (!decide (n = 0)) = true) : ¬ n = 0 := by simpa using h
theorem nzi_f {n : Int} (h : (!decide (n = 0)) = false) : n = 0 := by simpa using h
end Go.PL

namespace Go.PL
open Go.RL
instance : SzR 3 1 := ⟨szi_lit (by decide), szi_lit (by decide)⟩
instance : SzR 5 1 := ⟨szi_lit (by decide), szi_lit (by decide)⟩
instance : SzR 8 1 := ⟨szi_lit (by decide), szi_lit (by decide)⟩
instance : SzR (-1) 1 := ⟨szi_lit (by decide), szi_lit (by decide)⟩
theorem ex_k1 : rK 1 2 0 = 2 := by decide +kernel
theorem ex_k2 : rK 1 8 0 = 8 := by decide +kernel
theorem ex_k3 : rK 2 2 0 = 2 := by decide +kernel
theorem ex_k4 : rK 1 2 2 = 2 := by decide +kernel
theorem ex_p1 : pC 1 0 2 = 2 := by decide +kernel
theorem ex_p2 : pC 1 0 8 = 8 := by decide +kernel
theorem ex_p3 : pC 2 0 2 = 2 := by decide +kernel
theorem ex_p4 : pC 1 1 2 = 2 := by decide +kernel
theorem ex_r1 : rC 1 2 = 2 := by decide +kernel
theorem ex_r2 : rC 0 2 = 0 := by decide +kernel
theorem ex_r3 : rC (-2) 2 = 2 := by decide +kernel
theorem ex_c1 : cmpP 0 1 0 0 8 0 2 0 0 2 = 0 := by decide +kernel
theorem ex_c2 : cmpP 0 1 0 0 8 3 0 (-1) 0 0 = -1 := by decide +kernel
theorem ex_s1 : sqA 0 1 0 1 2 1 0 = 5 := by decide +kernel
theorem ex_s2 : sqB2 0 1 0 1 1 0 = -2 := by decide +kernel
theorem ex_i0 : ((0 : Int) : Rat) = 0 := rfl
theorem ex_i1 : ((1 : Int) : Rat) = 1 := rfl
theorem ex_i3 : ((3 : Int) : Rat) = 3 := rfl
theorem ex_im : ((-1 : Int) : Rat) = -1 := rfl
end Go.PL

namespace Go.PL
open Go.RL
theorem vld3_c {b c : Rat} (h : vld3 b c = true) : (b = 0 ↔ c = 0) ∧ 0 ≤ c := by
  unfold vld3 at h
  split at h
  · simp only [Bool.and_eq_true, decide_eq_true_eq] at h
    rw [h.1, h.2]; exact ⟨by simp, Rat.le_refl⟩
  · rename_i hn
    simp only [not_or] at hn
    simp only [Bool.and_eq_true, decide_eq_true_eq] at h
    exact ⟨⟨fun q => absurd q hn.1, fun q => absurd q hn.2⟩, Rat.le_of_lt h.1⟩
theorem make_X {b c b' c' : Rat} (h : vld3 b c = true) : rC b (pC b b' (rK b c c')) = c := by
  by_cases hb : b = 0
  · rw [rC_0 hb, ((vld3_c h).1.1 hb)]
  · rw [rC_1 hb, pC_1 hb, rK_1 hb]
theorem make_Y {b c b' c' : Rat} (h : vld3 b c = true) (h' : vld3 b' c' = true) (hm : b = 0 ∨ b' = 0 ∨ c = c') : rC b' (pC b b' (rK b c c')) = c' := by
  by_cases hb' : b' = 0
  · rw [rC_0 hb', ((vld3_c h').1.1 hb')]
  · rw [rC_1 hb', pC_2 hb']
    by_cases hb : b = 0
    · rw [rK_0 hb]
    · rw [rK_1 hb]; rcases hm with hm | hm | hm
      · contradiction
      · contradiction
      · exact hm
end Go.PL

namespace Go.PL
open Go.RL
/-- The cells of a point. -/
structure PtC (X : List PC) : Prop where
  len : X.length = 20
  im : X.all PC.im = true
  nm : X.map PC.norm = X
theorem PtC.tk {X : List PC} (h : PtC X) : X.take 20 = X := List.take_of_length_le (by rw [h.len]; omega)
theorem PtC.ne {X : List PC} (h : PtC X) : (X = []) = False := eq_false fun q => by have := h.len; rw [q] at this; cases this
theorem idx_p1 {X : List PC} (h : PtC X) {sz bs ag zz e k} : indexA ⟨sz, bs, ag, zz, .slice e⟩ 20 (some (.c (.sl 1 X))) (some (.c (.int k ((0 : Nat) : Int)))) = some (.iptr X) := by
  show (if (0 : Int) ≤ ((0 : Nat) : Int) ∧ ((0 : Nat) : Int) < ((1 : Nat) : Int) then some (PC.iptr ((X.drop (((0 : Nat) : Int).toNat * 20)).take 20)) else none) = _
  rw [if_pos (by omega)]
  show some (PC.iptr (X.take 20)) = _
  rw [h.tk]
theorem idx_p20 {X Y : List PC} (h : PtC X) {sz bs ag zz e k} : indexA ⟨sz, bs, ag, zz, .slice e⟩ 20 (some (.c (.sl 2 (X ++ Y)))) (some (.c (.int k ((0 : Nat) : Int)))) = some (.iptr X) := by
  show (if (0 : Int) ≤ ((0 : Nat) : Int) ∧ ((0 : Nat) : Int) < ((2 : Nat) : Int) then some (PC.iptr (((X ++ Y).drop (((0 : Nat) : Int).toNat * 20)).take 20)) else none) = _
  rw [if_pos (by omega)]
  show some (PC.iptr ((X ++ Y).take 20)) = _
  rw [List.take_append_of_le_length (by rw [h.len]; omega), h.tk]
theorem idx_p21 {X Y : List PC} (h : PtC X) (h' : PtC Y) {sz bs ag zz e k} : indexA ⟨sz, bs, ag, zz, .slice e⟩ 20 (some (.c (.sl 2 (X ++ Y)))) (some (.c (.int k ((1 : Nat) : Int)))) = some (.iptr Y) := by
  show (if (0 : Int) ≤ ((1 : Nat) : Int) ∧ ((1 : Nat) : Int) < ((2 : Nat) : Int) then some (PC.iptr (((X ++ Y).drop (((1 : Nat) : Int).toNat * 20)).take 20)) else none) = _
  rw [if_pos (by omega)]
  show some (PC.iptr (((X ++ Y).drop 20).take 20)) = _
  rw [show (X ++ Y).drop 20 = Y by rw [← h.len, List.drop_left], h'.tk]
theorem PtC.rat (a b d e c : Rat) : PtC (ratC a ++ (ratC b ++ (ratC d ++ (ratC e ++ ratC c)))) := ⟨by simp, by simp, by simp [List.map_append]⟩
theorem PtC.raw (n0 n1 n2 n3 n4 n5 n6 n7 n8 n9 : Bool) (l0 l1 l2 l3 l4 l5 l6 l7 l8 l9 : List Nat) : PtC [.bool n0, lC l0, .bool n1, lC l1, .bool n2, lC l2, .bool n3, lC l3, .bool n4, lC l4, .bool n5, lC l5, .bool n6, lC l6, .bool n7, lC l7, .bool n8, lC l8, .bool n9, lC l9] :=
  ⟨rfl, rfl, rfl⟩
theorem szr_i64 {n : Int} (h : -9223372036854775808 ≤ n) (h' : n < 9223372036854775808) : SzR ((n : Int) : Rat) 3 := by
  refine ⟨?_, ?_⟩
  · rw [Rat.num_intCast]; exact szi_lit (Nat.lt_trans (show n.natAbs < 9223372036854775809 by omega) (by decide))
  · rw [Rat.den_intCast]; exact szi_lit (by decide)
theorem vldP_nn {b e c : Rat} (h : vldP b e c = true) : 0 ≤ c := by
  unfold vldP at h
  split at h
  · simp only [decide_eq_true_eq] at h; rw [h]; exact Rat.le_refl
  · simp only [Bool.and_eq_true, decide_eq_true_eq] at h; exact Rat.le_of_lt h.1
theorem vldP_iff {b e c : Rat} (h : vldP b e c = true) : (b = 0 ∧ e = 0) ↔ c = 0 := by
  unfold vldP at h
  split at h
  · rename_i q; simp only [decide_eq_true_eq] at h; exact ⟨fun _ => h, fun _ => q⟩
  · rename_i q
    simp only [Bool.and_eq_true, decide_eq_true_eq] at h
    exact ⟨fun p => absurd p q, fun p => absurd h.1 (by rw [p]; exact Rat.lt_irrefl)⟩
/-- The order's laws. -/
theorem cmpR_swap {a b c a' b' c' : Rat} (hc : 0 ≤ c) (hc' : 0 ≤ c') : cmpR a' b' c' a b c = -cmpR a b c a' b' c' := by
  rw [cmpR_eq hc' hc, cmpR_eq hc hc', ← sgn_neg]
  congr 1
  apply Re.ext; intro n
  simp only [Re.sub_s, Re.neg_s]
  grind
theorem cmpP_swap {a b d e c a' b' d' e' c' : Rat} (hc : 0 ≤ c) (hc' : 0 ≤ c') : cmpP a' b' d' e' c' a b d e c = -cmpP a b d e c a' b' d' e' c' := by
  have hx := cmpR_swap (a := a) (b := b) (a' := a') (b' := b') (rC_nn (b := b) hc) (rC_nn (b := b') hc')
  have hy := cmpR_swap (a := d) (b := e) (a' := d') (b' := e') (rC_nn (b := e) hc) (rC_nn (b := e') hc')
  by_cases h : cmpR a b (rC b c) a' b' (rC b' c') = 0
  · rw [cmpP_0 h, cmpP_0 (by rw [hx, h]; rfl), hy]
  · rw [cmpP_1 h, cmpP_1 (by rw [hx]; omega), hx]
theorem sgn_sub_self (x : Re) : sgn (x - x) = 0 := sgn_zero.2 (eqv_refl x)
theorem cmpR_self {a b c : Rat} (hc : 0 ≤ c) : cmpR a b c a b c = 0 := by rw [cmpR_eq hc hc, sgn_sub_self]
theorem cmpP_self {a b d e c : Rat} (hc : 0 ≤ c) : cmpP a b d e c a b d e c = 0 := by rw [cmpP_0 (cmpR_self (rC_nn hc)), cmpR_self (rC_nn hc)]
theorem cmpR_bd (a b c a' b' c' : Rat) (hc : 0 ≤ c) (hc' : 0 ≤ c') : -1 ≤ cmpR a b c a' b' c' ∧ cmpR a b c a' b' c' ≤ 1 := by
  rw [cmpR_eq hc hc']
  rcases sgn_cases (v2 a b c - v2 a' b' c') with ⟨_, h⟩ | ⟨_, h⟩ | ⟨_, h⟩ <;> omega
theorem cmpP_bd {a b d e c a' b' d' e' c' : Rat} (hc : 0 ≤ c) (hc' : 0 ≤ c') : -1 ≤ cmpP a b d e c a' b' d' e' c' ∧ cmpP a b d e c a' b' d' e' c' ≤ 1 := by
  unfold cmpP
  split
  · exact cmpR_bd _ _ _ _ _ _ (rC_nn hc) (rC_nn hc')
  · exact cmpR_bd _ _ _ _ _ _ (rC_nn hc) (rC_nn hc')
end Go.PL

namespace Go.PL
open Go.RL
theorem two_facts {c : Rat} (hc : 0 ≤ c) : sgnQ c = 1 ∨ c = 0 := by
  by_cases h : c = 0
  · exact .inr h
  · left; unfold sgnQ; rw [if_neg (by grind), if_pos (by grind)]
/-- The reference's sign of a root is the sign of its value, where the radicand is no square. -/
theorem r3S_two {a b c : Rat} (hc : b = 0 ∨ (0 < c ∧ sqB c = false)) : r3S a b c = two a b c := by
  rcases hc with rfl | ⟨hc, hs⟩
  · have h0 : sgnQ 0 = 0 := by decide +kernel
    rw [two_1 (by rw [h0, Int.zero_mul])]
    unfold r3S; rw [if_pos (.inr h0)]
  · have h1 : sgnQ c = 1 := by
      rcases two_facts (Rat.le_of_lt hc) with h | h
      · exact h
      · rw [h] at hc; exact absurd hc Rat.lt_irrefl
    have ht : sgnQ b * sgnQ c = sgnQ b := by rw [h1, Int.mul_one]
    by_cases hb : sgnQ b = 0
    · rw [two_1 (by rw [ht]; exact hb)]
      unfold r3S; rw [if_pos (.inr hb)]
    by_cases hab : sgnQ a = sgnQ b
    · rw [two_2 (by rw [ht]; exact hab)]
      unfold r3S; rw [if_pos (.inl hab)]
    have hn : ¬ (sgnQ a = sgnQ b ∨ sgnQ b = 0) := fun h => h.elim hab hb
    by_cases ha : sgnQ a = 0
    · rw [two_3 ha, ht]
      unfold r3S; rw [if_neg hn, if_pos ha]
    · rw [two_4 (by rw [ht]; exact hb) (by rw [ht]; exact hab) ha]
      have hne : a * a - b * b * c ≠ 0 := by
        intro he
        have hb0 : b ≠ 0 := fun q => hb (by rw [sgnQ_eqz]; exact q)
        have : (a / b) * (a / b) = c := by
          have h3 : a * a = b * b * c := by grind
          have h2 : (a / b) * (a / b) = (a * a) / (b * b) := by grind
          rw [h2, h3]
          grind
        rw [sqB_of this] at hs; cases hs
      have hcm : cmpQ (a * a) (b * b * c) = sgnQ (a * a - b * b * c) := rfl
      rw [hcm]
      have hsa := sgnQ_cases a; have hsb := sgnQ_cases b
      have h4 := sgnQ_bd (a * a - b * b * c)
      have h3 : sgnQ (a * a - b * b * c) ≠ 0 := by rw [Ne, sgnQ_eqz]; exact hne
      unfold r3S
      rw [if_neg hn, if_neg ha]
      by_cases hp : 0 < sgnQ (a * a - b * b * c)
      · rw [if_pos hp, show sgnQ (a * a - b * b * c) = 1 by omega, Int.mul_one]
      · rw [if_neg hp, show sgnQ (a * a - b * b * c) = -1 by omega]
        omega
theorem v2_rC {a b c : Rat} : v2 a b (rC b c) = v2 a b c := by
  by_cases h : b = 0
  · rw [h, v2_b0, v2_b0]
  · rw [rC_1 h]
/-- The parts of the reference's square. -/
theorem sq_part {x b c : Rat} (h : b = 0 → x = 0) (hc : c = 0 → b = 0) : r3B x (rC b c) = x ∧ r3C x (rC b c) = rC x c := by
  by_cases hb : b = 0
  · have hx := h hb
    rw [rC_0 hb, rC_0 hx, hx]
    exact ⟨(r3_z (.inl rfl)).1, (r3_z (.inl rfl)).2⟩
  · rw [rC_1 hb]
    by_cases hx : x = 0
    · rw [rC_0 hx, hx]; exact ⟨(r3_z (.inl rfl)).1, (r3_z (.inl rfl)).2⟩
    · have := r3_n (b := x) (c := c) (by rintro (q | q); exact hx q; exact hb (hc q))
      rw [rC_1 hx]; exact this
theorem sq_sum {x y c : Rat} (h : c = 0 → x = 0 ∧ y = 0) : r3B (x + y) (rK x (rC x c) (rC y c)) = x + y ∧ r3C (x + y) (rK x (rC x c) (rC y c)) = rC (x + y) c := by
  by_cases hs : x + y = 0
  · rw [rC_0 hs, hs]; exact ⟨(r3_z (.inl rfl)).1, (r3_z (.inl rfl)).2⟩
  · rw [rC_1 hs]
    have hc : c ≠ 0 := fun q => hs (by rw [(h q).1, (h q).2]; exact Rat.add_zero 0)
    have hK : rK x (rC x c) (rC y c) = c := by
      by_cases hx : x = 0
      · rw [rK_0 hx]
        exact rC_1 fun hy => hs (by rw [hx, hy]; exact Rat.add_zero 0)
      · rw [rK_1 hx, rC_1 hx]
    rw [hK]
    exact r3_n (by rintro (q | q); exact hs q; exact hc q)
theorem sq_hok {x y c : Rat} : (decide (x = 0) || (decide (y = 0) || decide (rC x c = rC y c))) = true := by
  by_cases hx : x = 0
  · rw [decide_eq_true hx]; rfl
  · by_cases hy : y = 0
    · rw [decide_eq_true hy, Bool.true_or, Bool.or_true]
    · rw [rC_1 hx, rC_1 hy, decide_eq_true (rfl : c = c), Bool.or_true, Bool.or_true]
/-- Where a point's radicand is zero, so are the factors. -/
theorem vldP_z {b e c : Rat} (h : vldP b e c = true) (hc : c = 0) : b = 0 ∧ e = 0 := (vldP_iff h).2 hc
theorem vldP_s {b e c : Rat} (h : vldP b e c = true) (hc : c ≠ 0) : 0 < c ∧ sqB c = false := by
  unfold vldP at h
  split at h
  · simp only [decide_eq_true_eq] at h; contradiction
  · simpa using h
variable {a b d e c v w : Rat}
/-- The square's value. -/
theorem sq_val (hc : 0 ≤ c) : eqv (v2 (sqA a b d e c v w) (sqB2 a b d e v w) c) (v2 (a - v) b c * v2 (a - v) b c + v2 (d - w) e c * v2 (d - w) e c) := by
  have h : v2 (a - v) b c * v2 (a - v) b c + v2 (d - w) e c * v2 (d - w) e c - v2 (sqA a b d e c v w) (sqB2 a b d e v w) c = Re.of (b * b + e * e) * (rt c * rt c - Re.of c) := Re.ext fun n => by
    simp only [v2, sqA, sqB2, Re.sub_s, Re.add_s, Re.mul_s, Re.of_s]; grind
  refine eqv_symm ?_
  unfold eqv
  rw [h]
  exact null_mul' _ (rt_sq hc)
theorem sgn_mul_self (x : Re) : sgn (x * x) = if sgn x = 0 then 0 else 1 := by
  rw [sgn_mul]
  rcases sgn_cases x with ⟨_, h⟩ | ⟨_, h⟩ | ⟨_, h⟩ <;> rw [h] <;> simp
/-- The square's sign. -/
theorem sq_sign (h : vldP b e c = true) : 0 ≤ r3S (sqA a b d e c v w) (sqB2 a b d e v w) (rC (sqB2 a b d e v w) c) ∧
    (r3S (sqA a b d e c v w) (sqB2 a b d e v w) (rC (sqB2 a b d e v w) c) = 0 ↔ sgn (v2 (a - v) b c) = 0 ∧ sgn (v2 (d - w) e c) = 0) := by
  have hc := vldP_nn h
  have e1 : r3S (sqA a b d e c v w) (sqB2 a b d e v w) (rC (sqB2 a b d e v w) c) = two (sqA a b d e c v w) (sqB2 a b d e v w) (rC (sqB2 a b d e v w) c) := by
    refine r3S_two ?_
    by_cases hB : sqB2 a b d e v w = 0
    · exact .inl hB
    · right
      rw [rC_1 hB]
      refine vldP_s h fun q => hB ?_
      obtain ⟨rfl, rfl⟩ := vldP_z h q
      unfold sqB2; grind
  rw [e1, two_eq (rC_nn hc), v2_rC, sgn_eqv (sq_val hc)]
  have hx := sgn_mul_self (v2 (a - v) b c); have hy := sgn_mul_self (v2 (d - w) e c)
  have nx : 0 ≤ sgn (v2 (a - v) b c * v2 (a - v) b c) := by rw [hx]; split <;> omega
  have ny : 0 ≤ sgn (v2 (d - w) e c * v2 (d - w) e c) := by rw [hy]; split <;> omega
  obtain ⟨h1, h2, h3⟩ := nonneg_add nx ny
  refine ⟨h1, ?_⟩
  by_cases cx : sgn (v2 (a - v) b c) = 0
  · by_cases cy : sgn (v2 (d - w) e c) = 0
    · rw [if_pos cx] at hx; rw [if_pos cy] at hy
      exact ⟨fun _ => ⟨cx, cy⟩, fun _ => h3 hx hy⟩
    · rw [if_neg cy] at hy
      have := h2 (.inr (by omega))
      exact ⟨fun q => by omega, fun q => absurd q.2 cy⟩
  · rw [if_neg cx] at hx
    have := h2 (.inl (by omega))
    exact ⟨fun q => by omega, fun q => absurd q.1 cx⟩
theorem cmp_at {a b c v c' : Rat} (hc : 0 ≤ c) (hc' : 0 ≤ c') : cmpR a b (rC b c) v 0 c' = sgn (v2 (a - v) b c) := by
  rw [cmpR_eq (rC_nn hc) hc', v2_rC, v2_b0]
  congr 1
  apply Re.ext; intro n
  simp only [v2, Re.sub_s, Re.add_s, Re.mul_s, Re.of_s]
  grind
theorem cmpP_at (hc : 0 ≤ c) : cmpP a b d e c v 0 w 0 0 = 0 ↔ sgn (v2 (a - v) b c) = 0 ∧ sgn (v2 (d - w) e c) = 0 := by
  have h0 : (0 : Rat) ≤ rC 0 0 := rC_nn Rat.le_refl
  have hx := cmp_at (a := a) (b := b) (v := v) hc h0
  have hy := cmp_at (a := d) (b := e) (v := w) hc h0
  by_cases h : cmpR a b (rC b c) v 0 (rC 0 0) = 0
  · rw [cmpP_0 h, hy]
    rw [hx] at h
    exact ⟨fun q => ⟨h, q⟩, fun q => q.2⟩
  · rw [cmpP_1 h]
    rw [hx] at h ⊢
    exact ⟨fun q => absurd q h, fun q => q.1⟩
theorem sq_dec (h : vldP b e c = true) : decide (r3S (sqA a b d e c v w) (sqB2 a b d e v w) (rC (sqB2 a b d e v w) c) = 0) = decide (cmpP a b d e c v 0 w 0 0 = 0) :=
  decide_eq_decide.2 ((sq_sign h).2.trans (cmpP_at (vldP_nn h)).symm)
theorem sqA_t {v' w' : Rat} : sqA (a + v') b (d + w') e c (v + v') (w + w') = sqA a b d e c v w := by unfold sqA; grind
theorem sqB_t {v' w' : Rat} : sqB2 (a + v') b (d + w') e (v + v') (w + w') = sqB2 a b d e v w := by unfold sqB2; grind
instance SzR.sqA {k1 k2 k3 k4 k5 k6 k7 : Nat} [SzR a k1] [SzR b k2] [SzR d k3] [SzR e k4] [SzR c k5] [SzR v k6] [SzR w k7] : SzR (sqA a b d e c v w) (k1 + k6 + 1 + (k1 + k6 + 1) + (k3 + k7 + 1 + (k3 + k7 + 1)) + 1 + (k2 + k2 + (k4 + k4) + 1 + k5) + 1) := by
  unfold PL.sqA; infer_instance
instance SzR.sqB2 {k1 k2 k3 k4 k6 k7 : Nat} [SzR a k1] [SzR b k2] [SzR d k3] [SzR e k4] [SzR v k6] [SzR w k7] : SzR (sqB2 a b d e v w) (k1 + k6 + 1 + k2 + (k3 + k7 + 1 + k4) + 1 + (k1 + k6 + 1 + k2 + (k3 + k7 + 1 + k4) + 1) + 1) := by
  unfold PL.sqB2; infer_instance
end Go.PL

namespace Go.PL
open Go.RL
theorem nr_1 : ((1 : Int) : Rat) = 1 := rfl
theorem sgnQ_lez (q : Rat) : (sgnQ q ≤ 0) = ¬ (0 < q) := by
  apply propext
  rw [← sgnQ_gtz]
  omega
instance SzR.divInt1 {n : Int} {k : Nat} [SzI n k] : SzR (Rat.divInt n 1) (max k 1) := divInt_size (by decide)
attribute [go_sem] sgnQ_lez
end Go.PL

namespace Go.PL
open Go.RL
theorem sgnQ_pos {q : Rat} (h : 0 < q) : sgnQ q = 1 := by
  have h1 : 0 < sgnQ q := by rw [sgnQ_gtz]; exact h
  have := (sgnQ_bd q).2
  omega
theorem sgnQ_nn {q : Rat} (h : 0 ≤ q) : 0 ≤ sgnQ q := by
  have : ¬ sgnQ q < 0 := by rw [sgnQ_ltz]; exact Rat.not_lt.2 h
  omega
theorem sgnQ_np {q : Rat} (h : q ≤ 0) : sgnQ q ≤ 0 := by
  have : ¬ 0 < sgnQ q := by rw [sgnQ_gtz]; exact Rat.not_lt.2 h
  omega
theorem sgnQ_zero {q : Rat} (h : q = 0) : sgnQ q = 0 := by rw [sgnQ_eqz]; exact h
variable {u b c : Rat}
theorem two_lo (hb : 0 < b) (hc : 0 ≤ c) (h : 0 ≤ u ∨ u * u ≤ b * b * c) : 0 ≤ two u b c := by
  have s1 := sgnQ_pos hb
  have s2 := sgnQ_nn hc
  have hy : sgnQ b * sgnQ c = sgnQ c := by rw [s1, Int.one_mul]
  have s3 := (sgnQ_bd c).2
  by_cases x0 : sgnQ u = 0
  · rw [two_3 x0, hy]; exact s2
  by_cases y0 : sgnQ c = 0
  · rw [two_1 (by rw [hy]; exact y0)]
    have c0 : c = 0 := by rw [← sgnQ_eqz]; exact y0
    rcases h with h | h
    · exact sgnQ_nn h
    · exfalso
      rw [sgnQ_eqz] at x0
      rw [c0] at h
      have : 0 < u * u := by
        by_cases q : u < 0
        · have := Rat.mul_pos (show (0 : Rat) < -u by grind) (show (0 : Rat) < -u by grind); grind
        · have q' : 0 < u := by grind
          exact Rat.mul_pos q' q'
      grind
  · by_cases xy : sgnQ u = sgnQ c
    · rw [two_2 (by rw [hy]; exact xy), xy]; exact s2
    · rw [two_4 (by rw [hy]; exact y0) (by rw [hy]; exact xy) x0]
      have := sgnQ_bd u
      have hu : sgnQ u = -1 := by omega
      rcases h with h | h
      · have := sgnQ_nn h; omega
      · have hm : cmpQ (u * u) (b * b * c) ≤ 0 := sgnQ_np (by grind)
        rw [hu]; omega
theorem two_hi (hb : 0 < b) (hc : 0 ≤ c) (h : u ≤ 0) (h' : b * b * c ≤ u * u) : two u b c ≤ 0 := by
  have s1 := sgnQ_pos hb
  have s2 := sgnQ_nn hc
  have hy : sgnQ b * sgnQ c = sgnQ c := by rw [s1, Int.one_mul]
  have s3 := (sgnQ_bd c).2
  have su := sgnQ_np h
  by_cases x0 : sgnQ u = 0
  · rw [two_3 x0, hy]
    have u0 : u = 0 := by rw [← sgnQ_eqz]; exact x0
    have c0 : ¬ 0 < c := fun q => by
      have := Rat.mul_pos (Rat.mul_pos hb hb) q
      rw [u0] at h'; grind
    exact sgnQ_np (Rat.not_lt.1 c0)
  by_cases y0 : sgnQ c = 0
  · rw [two_1 (by rw [hy]; exact y0)]; exact su
  · rw [two_4 (by rw [hy]; exact y0) (by rw [hy]; omega) x0]
    have := sgnQ_bd u
    have hu : sgnQ u = -1 := by omega
    have hm : 0 ≤ cmpQ (u * u) (b * b * c) := sgnQ_nn (by grind)
    rw [hu]; omega
theorem two_neg (hc : 0 ≤ c) : two (-u) (-b) c = -two u b c := by
  rw [two_eq hc, two_eq hc, ← sgn_neg]
  congr 1
  apply Re.ext; intro n
  simp only [v2, Re.add_s, Re.mul_s, Re.of_s, Re.neg_s]
  grind
theorem two_lo' (hb : b < 0) (hc : 0 ≤ c) (h : 0 ≤ u) (h' : b * b * c ≤ u * u) : 0 ≤ two u b c := by
  have := two_hi (u := -u) (b := -b) (by grind) hc (by grind) (by grind)
  rw [two_neg hc] at this
  omega
theorem two_hi' (hb : b < 0) (hc : 0 ≤ c) (h : u ≤ 0 ∨ u * u ≤ b * b * c) : two u b c ≤ 0 := by
  have := two_lo (u := -u) (b := -b) (by grind) hc (h.imp (fun q => by grind) (fun q => by grind))
  rw [two_neg hc] at this
  omega
theorem fl_1 {u W M s : Rat} (hM : 0 < M) (hu : u ≤ 0) (h : -u * M ≤ W) (h' : W * W ≤ M * M * s) : u * u ≤ s := by
  have hx : 0 ≤ -u * M := Rat.mul_nonneg (by grind) (Rat.le_of_lt hM)
  have h1 : (-u * M) * (-u * M) ≤ W * W := by
    have a1 := Rat.mul_le_mul_of_nonneg_left h hx
    have a2 := Rat.mul_le_mul_of_nonneg_right h (Rat.le_trans hx h)
    grind
  rcases Classical.em (u * u ≤ s) with c | c
  · exact c
  · exfalso
    have c' : s < u * u := Rat.not_le.1 c
    have := Rat.mul_lt_mul_of_pos_left c' (Rat.mul_pos hM hM)
    grind
theorem fl_2 {u W M s : Rat} (hM : 0 < M) (hW : 0 ≤ W) (h : W + 1 ≤ -u * M) (h' : M * M * s < (W + 1) * (W + 1)) : u ≤ 0 ∧ s ≤ u * u := by
  have hu : u ≤ 0 := by
    rcases Classical.em (u ≤ 0) with c | c
    · exact c
    · exfalso
      have := Rat.mul_pos (Rat.not_le.1 c) hM
      grind
  refine ⟨hu, ?_⟩
  have h1 : (W + 1) * (W + 1) ≤ (-u * M) * (-u * M) := by
    have a1 := Rat.mul_le_mul_of_nonneg_left h (show (0 : Rat) ≤ W + 1 by grind)
    have a2 := Rat.mul_le_mul_of_nonneg_right h (show (0 : Rat) ≤ -u * M by grind)
    grind
  rcases Classical.em (s ≤ u * u) with c | c
  · exact c
  · exfalso
    have c' : u * u < s := Rat.not_le.1 c
    have := Rat.mul_lt_mul_of_pos_left c' (Rat.mul_pos hM hM)
    grind
/-- The greatest integer that is not greater than a root: between what it lies. -/
theorem flR_spec {a : Rat} (hc : 0 ≤ c) : 0 ≤ sgn (v2 (a - (flR a b c : Int)) b c) ∧ sgn (v2 (a - ((flR a b c : Int) + 1)) b c) ≤ 0 := by
  by_cases hb : b = 0
  · rw [hb, v2_b0, v2_b0, sgn_of, sgn_of, flR_z rfl]
    exact ⟨sgnQ_nn (by have := fl_le a; grind), sgnQ_np (by have := lt_fl a; grind)⟩
  rw [← two_eq hc, ← two_eq hc]
  -- the parts
  have hs : 0 ≤ b * b * c := Rat.mul_nonneg (by
    by_cases q : 0 ≤ b
    · exact Rat.mul_nonneg q q
    · have := Rat.mul_nonneg (show (0 : Rat) ≤ -b by grind) (show (0 : Rat) ≤ -b by grind); grind) hc
  have hN : b < 0 → _ := fun h => flR_n (a := a) (c := c) hb h
  have hP : ¬ b < 0 → _ := fun h => flR_p (a := a) (c := c) hb h
  generalize hsd : b * b * c = s at *
  have hn := a.den_pos
  have hq := s.den_pos
  have hp : 0 ≤ s.num := Rat.num_nonneg.2 hs
  have hz : 0 ≤ ((a.den : Int) * (a.den : Int)) * (s.num * (s.den : Int)) := Int.mul_nonneg (Int.mul_nonneg (by omega) (by omega)) (Int.mul_nonneg hp (by omega))
  obtain ⟨w0, w1, w2⟩ := sqrtI_facts hz
  have hm : 0 < (a.den : Int) * (s.den : Int) := Int.mul_pos (by omega) (by omega)
  have eA : a * (a.den : Int) = (a.num : Rat) := by
    have h := divInt_mul (n := a.num) (d := (a.den : Int)) (by omega)
    rwa [Rat.num_divInt_den] at h
  have eS : s * (s.den : Int) = (s.num : Rat) := by
    have h := divInt_mul (n := s.num) (d := (s.den : Int)) (by omega)
    rwa [Rat.num_divInt_den] at h
  generalize hw : sqrtI (((a.den : Int) * (a.den : Int)) * (s.num * (s.den : Int))) = w at *
  generalize hnn : (a.den : Int) = n at *
  generalize hqq : (s.den : Int) = q at *
  -- in fractions
  have cn : (0 : Rat) < (n : Rat) := by exact_mod_cast (show (0 : Int) < n by omega)
  have cq : (0 : Rat) < (q : Rat) := by exact_mod_cast (show (0 : Int) < q by omega)
  have W0 : (0 : Rat) ≤ (w : Rat) := by exact_mod_cast w0
  have M0 : (0 : Rat) < (n : Rat) * q := Rat.mul_pos cn cq
  have W1 : (w : Rat) * w ≤ ((n : Rat) * q) * ((n : Rat) * q) * s := by
    have h : ((w * w : Int) : Rat) ≤ (((n * n) * (s.num * q) : Int) : Rat) := by exact_mod_cast w1
    rw [Rat.intCast_mul, Rat.intCast_mul, Rat.intCast_mul, Rat.intCast_mul, ← eS] at h
    grind
  have W2 : ((n : Rat) * q) * ((n : Rat) * q) * s < ((w : Rat) + 1) * ((w : Rat) + 1) := by
    have h : (((n * n) * (s.num * q) : Int) : Rat) < (((w + 1) * (w + 1) : Int) : Rat) := by exact_mod_cast w2
    rw [Rat.intCast_mul, Rat.intCast_mul, Rat.intCast_mul, Rat.intCast_mul, Rat.intCast_add, ← eS] at h
    have e1 : ((1 : Int) : Rat) = 1 := rfl
    rw [e1] at h
    grind
  -- what is divided
  have key : ∀ r f : Int, f = (a.num * q + r) / (n * q) → (f : Rat) * (n * q) ≤ a * ((n : Rat) * q) + r ∧ a * ((n : Rat) * q) + r + 1 ≤ ((f : Rat) + 1) * (n * q) := by
    intro r f hf
    have h1 := Int.mul_ediv_self_le (x := a.num * q + r) (k := n * q) (by omega)
    have h2 := Int.lt_mul_ediv_self_add (x := a.num * q + r) (k := n * q) hm
    rw [← hf] at h1 h2
    have h3 : ((n * q * f : Int) : Rat) ≤ ((a.num * q + r : Int) : Rat) := by exact_mod_cast h1
    have h4 : ((a.num * q + r + 1 : Int) : Rat) ≤ ((n * q * f + n * q : Int) : Rat) := by exact_mod_cast h2
    have e1 : ((1 : Int) : Rat) = 1 := rfl
    simp only [Rat.intCast_mul, Rat.intCast_add, ← eA, e1] at h3 h4
    exact ⟨by grind, by grind⟩
  by_cases hbn : b < 0
  · obtain ⟨k1, k2⟩ := key _ _ (hN hbn)
    generalize flR a b c = f at *
    have e1 : ((-(w + 1) : Int) : Rat) = -((w : Rat) + 1) := by rw [Rat.intCast_neg, Rat.intCast_add]; rfl
    rw [e1] at k1 k2
    refine ⟨?_, ?_⟩
    · have := fl_2 (u := -(a - (f : Rat))) M0 W0 (by grind) W2
      exact two_lo' hbn hc (by grind) (by rw [hsd]; grind)
    · refine two_hi' hbn hc ?_
      rcases Classical.em (a - ((f : Rat) + 1) ≤ 0) with q0 | q0
      · exact .inl q0
      · have := fl_1 (u := -(a - ((f : Rat) + 1))) M0 (by have := Rat.not_le.1 q0; grind) (by grind) W1
        exact .inr (by rw [hsd]; grind)
  · obtain ⟨k1, k2⟩ := key _ _ (hP hbn)
    generalize flR a b c = f at *
    have hbp : 0 < b := by grind
    refine ⟨?_, ?_⟩
    · refine two_lo hbp hc ?_
      rcases Classical.em (0 ≤ a - (f : Rat)) with q0 | q0
      · exact .inl q0
      · have := fl_1 (u := a - (f : Rat)) M0 (by have := Rat.not_le.1 q0; grind) (by grind) W1
        exact .inr (by rw [hsd]; exact this)
    · have := fl_2 (u := a - ((f : Rat) + 1)) M0 W0 (by grind) W2
      exact two_hi hbp hc this.1 (by rw [hsd]; exact this.2)
end Go.PL
