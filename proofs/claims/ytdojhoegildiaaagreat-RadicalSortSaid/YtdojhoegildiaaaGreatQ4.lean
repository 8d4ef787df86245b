/- The walks of integers, third part: division. Conditions: none.
   The reference's integers in the walks. Conditions: each lemma's own.
   The walks of the reference's integers, first part. Conditions: none.
   The walks of the reference's integers, second part. Conditions: none.
   The walks of the reference's integers, third part. Conditions: none.
   The reference's long division: what the loops keep. Conditions: each lemma's own.
   The walks of the reference's integers, fourth part: long division. Conditions: none.
   The reference's integers: greatest common divisors, square roots, validity. Conditions: each lemma's own.
   The walks of the reference's integers, fifth part. Conditions: none.
   The walks that ask for normal form. Conditions: none. -/
import Derived.Test.YtdojhoegildiaaaGreatQ3
set_option linter.unusedVariables false
set_option linter.unusedSimpArgs false
set_option linter.unusedSimpArgs false
set_option linter.unusedVariables false
set_option maxRecDepth 20000
namespace Go.Proofs.YtdojhoegildiaaaGreat
open Go Go.PL
set_option maxHeartbeats 4000000 in
theorem c_integer_DivMod (x y : Int) (hx : (limbs x.natAbs).length ≤ 1000000) (hy : (limbs y.natAbs).length ≤ 1000000) (hy0 : 0 < y) :
    Ret Tryz.prog 130 [.a (intC x), .a (intC y)] (.t [.a (intC (x / y)), .a (intC (x % y)), .c (.int .i64 0)]) := by
  refine ret_of_body (md := {}) Tryz.func130 (by kernel_rfl) rfl ?_; simp only [Tryz.f130, go_sem, Nat.reduceAdd, Nat.reduceSub, List.reduceReplicate]; have hlB := limbs_lt0 (show 0 < y.natAbs by omega); have hq1 := divQ_len x.natAbs y.natAbs; have hr1 := divR_len (A := x.natAbs) (show 0 < y.natAbs by omega); have hq2 := divQ_val (A := x.natAbs) (show 0 < y.natAbs by omega); have hr2 := divR_val (A := x.natAbs) (show 0 < y.natAbs by omega); have hq3 := limbs_len_mono (Nat.div_le_self x.natAbs y.natAbs); have hr3 := limbs_len_mono (Nat.mod_le x.natAbs y.natAbs); refine pwx_sr 4 [] (by rfl) fun _ K1 => ?_; simp (disch := omega) only [go_sem]; refine K1 _ ?_; clear K1; refine pwp_seq ?_; refine pwx_sr 0 [] (by rfl) fun _ K2 => ?_; simp (disch := omega) only [go_sem]; refine K2 _ ?_; clear K2; refine pwp_cond (b := false) (by rfl) (fun h => nomatch h) (fun _ => ?_); refine pwp_skip ?_; refine n_then ?_; refine pwx_sr 0 [] (by rfl) fun _ K3 => ?_; refine rgnX_take 5 fun _ K4 => ?_; simp (disch := omega) only [go_sem]; refine ⟨_, c_integer_divide _ _ (by omega) (by omega) (by omega), ?_⟩; refine K4 _ ?_; simp (disch := omega) only [go_sem]; refine K3 _ ?_; clear K4 K3; by_cases hx0 : x < 0
  · refine pwx_sd Tryz.mixed 2 [] (by rfl) [] (by kernel_rfl) (by simp) fun _ K5 => ?_; refine rgnX_take 7 fun _ K6 => ?_; simp (disch := omega) only [go_sem, ilt_F]; refine ⟨_, c_integer_signed _ _ (by first | exact divQ_dig _ _ | exact divR_dig (by omega)) (by omega), ?_⟩; refine K6 _ ?_; refine rgnX_take 4 fun _ K7 => ?_; simp (disch := omega) only [go_sem, ilt_F]; refine ⟨_, c_integer_signed _ _ (by first | exact divQ_dig _ _ | exact divR_dig (by omega)) (by omega), ?_⟩; refine K7 _ ?_; simp (disch := omega) only [go_sem, ilt_F]; refine K5 _ ?_; clear K7 K6 K5; refine pwp_seq ?_; by_cases hr : x.natAbs % y.natAbs = 0
    · refine pwx_sr 0 [some 36, some 37, some 38, some 39, some 40, some 41, some 42, some 43, some 44, some 45, some 46] (by rfl) fun _ K8 => ?_; simp (disch := omega) only [go_sem, hq2, hr2, hr, limbs_zero, ilt_F, sgf_lt, sgt_lt]; refine K8 _ ?_; clear K8; refine pwp_cond (b := false) (by rfl) (fun h => nomatch h) (fun _ => ?_); refine pwp_skip ?_; refine n_then ?_; refine pwx_sd Tryz.mixed 0 [] (by rfl) [(10, 4)] (by kernel_rfl) (by simp [Differ, St.pad]) fun _ K9 => ?_; simp (disch := omega) only [go_sem, hq2, hr2]; refine K9 _ ?_; clear K9; refine pwp_ret ?_; refine ⟨Or.inr rfl, ?_⟩; simp (disch := omega) only [go_sem]
      rw [← (dm_neg0 hx0 hy0 hr).1, ← (dm_neg0 hx0 hy0 hr).2, hr]; exact ⟨rfl, rfl⟩
    · have hl := limbs_pos_len hr; have hr0 := Nat.pos_of_ne_zero hr; refine pwx_sr 0 [some 36, some 37, some 38, some 39, some 40, some 41, some 42, some 43, some 44, some 45, some 46] (by rfl) fun _ K10 => ?_; simp (disch := omega) only [go_sem, hq2, hr2, hr, limbs_zero, ilt_F, sgf_lt, sgt_lt]; refine K10 _ ?_; clear K10; refine pwp_cond (b := _) (by rfl) (fun hb2 => ?_) (fun hb2 => ?_)
      · first
        | (exfalso; simp at hb2; done)
        | (refine pwx_draw Tryz.mixed 0 [] (by rfl) [] (by kernel_rfl) (by simp) fun _ K11 => ?_
           refine rgnX_take 2 fun _ K12 => ?_; simp (disch := omega) only [go_sem, hq2, hr2]; refine ⟨_, c_integer_FromInt64 _ (by omega) (by omega), ?_⟩; refine K12 _ ?_; refine rgnX_take 1 fun _ K13 => ?_; simp (disch := omega) only [go_sem, hq2, hr2]; refine ⟨_, c_integer_Sub _ _ (by simp only [sg_natAbs]; omega) (by exact len_lit (k := 3) (by decide)), ?_⟩; refine K13 _ ?_; refine rgnX_take 3 fun _ K14 => ?_; simp (disch := omega) only [go_sem, hq2, hr2]; refine ⟨_, c_integer_Add _ _ (by simp only [sg_natAbs]; omega) (by omega), ?_⟩; refine K14 _ ?_; simp (disch := omega) only [go_sem, hq2, hr2]; refine K11 _ ?_; clear K14 K13 K12 K11; refine n_then ?_; refine pwx_sd Tryz.mixed 0 [] (by rfl) [(10, 4)] (by kernel_rfl) (by simp [Differ, St.pad]) fun _ K15 => ?_; simp (disch := omega) only [go_sem, hq2, hr2]; refine K15 _ ?_; clear K15; refine pwp_ret ?_; refine ⟨Or.inr rfl, ?_⟩; simp (disch := omega) only [go_sem]
           rw [← (dm_neg1 hx0 hy0 hr).1, ← (dm_neg1 hx0 hy0 hr).2]; exact ⟨rfl, rfl⟩)
      · first
        | (exfalso; simp at hb2; done)
        | (refine pwp_skip ?_
           refine n_then ?_; refine pwx_sd Tryz.mixed 0 [] (by rfl) [(10, 4)] (by kernel_rfl) (by simp [Differ, St.pad]) fun _ K16 => ?_; simp (disch := omega) only [go_sem, hq2, hr2]; refine K16 _ ?_; clear K16; refine pwp_ret ?_; refine ⟨Or.inr rfl, ?_⟩; simp (disch := omega) only [go_sem]
           trivial)
  · refine pwx_sd Tryz.mixed 2 [] (by rfl) [] (by kernel_rfl) (by simp) fun _ K17 => ?_; refine rgnX_take 7 fun _ K18 => ?_; simp (disch := omega) only [go_sem, ilt_F]; refine ⟨_, c_integer_signed _ _ (by first | exact divQ_dig _ _ | exact divR_dig (by omega)) (by omega), ?_⟩; refine K18 _ ?_; refine rgnX_take 4 fun _ K19 => ?_; simp (disch := omega) only [go_sem, ilt_F]; refine ⟨_, c_integer_signed _ _ (by first | exact divQ_dig _ _ | exact divR_dig (by omega)) (by omega), ?_⟩; refine K19 _ ?_; simp (disch := omega) only [go_sem, ilt_F]; refine K17 _ ?_; clear K19 K18 K17; refine pwp_seq ?_; by_cases hr : x.natAbs % y.natAbs = 0
    · refine pwx_sr 0 [some 36, some 37, some 38, some 39, some 40, some 41, some 42, some 43, some 44, some 45, some 46] (by rfl) fun _ K20 => ?_; simp (disch := omega) only [go_sem, hq2, hr2, hr, limbs_zero, ilt_F, sgf_lt, sgt_lt]; refine K20 _ ?_; clear K20; refine pwp_cond (b := false) (by rfl) (fun h => nomatch h) (fun _ => ?_); refine pwp_skip ?_; refine n_then ?_; refine pwx_sd Tryz.mixed 0 [] (by rfl) [(10, 4)] (by kernel_rfl) (by simp [Differ, St.pad]) fun _ K21 => ?_; simp (disch := omega) only [go_sem, hq2, hr2]; refine K21 _ ?_; clear K21; refine pwp_ret ?_; refine ⟨Or.inr rfl, ?_⟩; simp (disch := omega) only [go_sem]
      rw [← (dm_pos hx0 hy0).1, ← (dm_pos hx0 hy0).2, hr]; exact ⟨rfl, rfl⟩
    · have hl := limbs_pos_len hr; have hr0 := Nat.pos_of_ne_zero hr; refine pwx_sr 0 [some 36, some 37, some 38, some 39, some 40, some 41, some 42, some 43, some 44, some 45, some 46] (by rfl) fun _ K22 => ?_; simp (disch := omega) only [go_sem, hq2, hr2, hr, limbs_zero, ilt_F, sgf_lt, sgt_lt]; refine K22 _ ?_; clear K22; refine pwp_cond (b := _) (by rfl) (fun hb4 => ?_) (fun hb4 => ?_)
      · first
        | (exfalso; simp at hb4; done)
        | (refine pwx_draw Tryz.mixed 0 [] (by rfl) [] (by kernel_rfl) (by simp) fun _ K23 => ?_
           refine rgnX_take 2 fun _ K24 => ?_; simp (disch := omega) only [go_sem, hq2, hr2]; refine ⟨_, c_integer_FromInt64 _ (by omega) (by omega), ?_⟩; refine K24 _ ?_; refine rgnX_take 1 fun _ K25 => ?_; simp (disch := omega) only [go_sem, hq2, hr2]; refine ⟨_, c_integer_Sub _ _ (by simp only [sg_natAbs]; omega) (by exact len_lit (k := 3) (by decide)), ?_⟩; refine K25 _ ?_; refine rgnX_take 3 fun _ K26 => ?_; simp (disch := omega) only [go_sem, hq2, hr2]; refine ⟨_, c_integer_Add _ _ (by simp only [sg_natAbs]; omega) (by omega), ?_⟩; refine K26 _ ?_; simp (disch := omega) only [go_sem, hq2, hr2]; refine K23 _ ?_; clear K26 K25 K24 K23; refine n_then ?_; refine pwx_sd Tryz.mixed 0 [] (by rfl) [(10, 4)] (by kernel_rfl) (by simp [Differ, St.pad]) fun _ K27 => ?_; simp (disch := omega) only [go_sem, hq2, hr2]; refine K27 _ ?_; clear K27; refine pwp_ret ?_; refine ⟨Or.inr rfl, ?_⟩; simp (disch := omega) only [go_sem]
           trivial)
      · first
        | (exfalso; simp at hb4; done)
        | (refine pwp_skip ?_
           refine n_then ?_; refine pwx_sd Tryz.mixed 0 [] (by rfl) [(10, 4)] (by kernel_rfl) (by simp [Differ, St.pad]) fun _ K28 => ?_; simp (disch := omega) only [go_sem, hq2, hr2]; refine K28 _ ?_; clear K28; refine pwp_ret ?_; refine ⟨Or.inr rfl, ?_⟩; simp (disch := omega) only [go_sem]
           rw [← (dm_pos hx0 hy0).1, ← (dm_pos hx0 hy0).2]; exact ⟨rfl, rfl⟩)
set_option maxHeartbeats 4000000 in
theorem c_integer_GCD (x y : Int) (hx : (limbs x.natAbs).length ≤ 1000000) (hy : (limbs y.natAbs).length ≤ 1000000) :
    Ret Tryz.prog 118 [.a (intC x), .a (intC y)] (.e (.a (intC ((Nat.gcd x.natAbs y.natAbs : Nat) : Int)))) := by
  refine ret_of_body (md := {}) Tryz.func118 (by kernel_rfl) rfl ?_; simp only [Tryz.f118, go_sem, Nat.reduceAdd, Nat.reduceSub, List.reduceReplicate]; refine pwx_sr 3 [] (by rfl) fun _ K1 => ?_; simp (disch := omega) only [go_sem]; refine K1 _ ?_; clear K1; refine pwx_sd Tryz.mixed 2 [] (by rfl) [] (by kernel_rfl) (by simp) fun _ K2 => ?_; refine rgnX_take 3 fun _ K3 => ?_; simp (disch := omega) only [go_sem, Int.natAbs_natCast, sg_false]; refine ⟨_, c_integer_signed _ _ (limbs_dig _) (by omega), ?_⟩; refine K3 _ ?_; refine rgnX_take 3 fun _ K4 => ?_; simp (disch := omega) only [go_sem, Int.natAbs_natCast, sg_false]; refine ⟨_, c_integer_signed _ _ (limbs_dig _) (by omega), ?_⟩; refine K4 _ ?_; simp (disch := omega) only [go_sem, Int.natAbs_natCast, sg_false]; refine K2 _ ?_; clear K4 K3 K2; refine pwp_seq ?_; refine pwp_block ?_; refine pwp_loopF (false :: false :: false :: false :: true :: true :: true :: false :: false :: false :: false :: false :: false :: false :: false :: false :: false :: false :: false :: false :: false :: false :: false :: false :: false :: false :: false :: false :: false :: false :: false :: false :: false :: false :: false :: false :: false :: false :: false :: false :: false :: false :: false :: false :: false :: false :: false :: false :: false :: false :: false :: false :: false :: false :: false :: false :: false :: false :: false :: false :: false :: []) 5 (fun M s => ∃ X : Nat, ∃ Y : Nat, ((limbs X).length ≤ 1000000) ∧ ((limbs Y).length ≤ 1000000) ∧ (Nat.gcd X Y = Nat.gcd x.natAbs y.natAbs) ∧ Y = M ∧ s = { slots := .j :: .j :: .j :: .j :: .e (.c (.ptr 2 0)) :: .e (.c (.ptr 3 0)) :: .e (.c (.ptr 4 0)) :: .j :: .j :: .j :: .j :: .j :: .j :: .j :: .j :: .j :: .j :: .j :: .j :: .j :: .j :: .j :: .j :: .j :: .j :: .j :: .j :: .j :: .j :: .j :: .j :: .j :: .j :: .j :: .j :: .j :: .j :: .j :: .j :: .j :: .j :: .j :: .j :: .j :: .j :: .j :: .j :: .j :: .j :: .j :: .j :: .j :: .j :: .j :: .j :: .j :: .j :: .j :: .j :: .j :: .j :: [], st := [.live (intC x), .live (intC y), .live [.bool false, .nils], .live (intC (X : Int)), .live (intC (Y : Int))] }) (n := y.natAbs) rfl ?_ ?_ ?_
  · refine ⟨x.natAbs, y.natAbs, ?_, ?_, ?_, rfl, ?_⟩
    · exact hx
    · exact hy
    · rfl
    · first | rfl | simp [St.cut, keep]
  · refine ⟨rfl, ?_, ?_⟩ <;> first | rfl | (simp [keep, PV.lt, PE.lt, PC.lt, Box.lt, ↓lC_lt]; done) | simp [keep, PV.lt, PE.lt, PC.lt, Box.lt, ↓lC_lt, ↓intC_lt, ↓ratC_lt, ↓u32s_lt]
  · rintro _ _ ⟨X, Y, hX, hY, hG, rfl, rfl⟩
    refine pwp_seq ?_; refine pwx_sr 0 [] (by rfl) fun _ K5 => ?_; simp (disch := omega) only [go_sem, Int.natAbs_natCast, sg_false]; refine K5 _ ?_; clear K5; refine pwp_cond (b := _) (by rfl) (fun hb0 => ?_) (fun hb0 => ?_)
    · replace hb0 := of_decide_eq_true hb0; have hY0 : 0 < Y := len_pos (by omega); have hr1 := divR_len (A := X) hY0; have hr2 := divR_val (A := X) hY0; refine pwp_skip ?_; refine n_then ?_; refine pwp_block ?_; refine pwx_sr 0 [] (by rfl) fun _ K6 => ?_; refine rgnX_take 2 fun _ K7 => ?_; simp (disch := omega) only [go_sem, Int.natAbs_natCast, sg_false]; refine ⟨_, c_integer_word _ (by simp only [Int.natAbs_natCast]; omega), ?_⟩; refine K7 _ ?_; simp (disch := omega) only [go_sem, Int.natAbs_natCast, sg_false]; refine K6 _ ?_; clear K7 K6; refine pwx_sr 0 [] (by rfl) fun _ K8 => ?_; refine rgnX_take 2 fun _ K9 => ?_; simp (disch := omega) only [go_sem, Int.natAbs_natCast, sg_false]; refine ⟨_, c_integer_word _ (by simp only [Int.natAbs_natCast]; omega), ?_⟩; refine K9 _ ?_; simp (disch := omega) only [go_sem, Int.natAbs_natCast, sg_false]; refine K8 _ ?_; clear K9 K8; refine pwp_seq ?_
      rcases hwX : wordB ((X : Nat) : Int) with _ | _
      · refine pwx_sr 0 [some 33, some 34, some 35, some 36] (by rfl) fun _ K10 => ?_; simp (disch := omega) only [go_sem, Int.natAbs_natCast, sg_false]; refine K10 _ ?_; clear K10; refine pwp_cond (b := false) (by rfl) (fun h => nomatch h) (fun _ => ?_); refine pwp_skip ?_; refine n_then ?_; refine pwx_sr 0 [] (by rfl) fun _ K11 => ?_; refine rgnX_take 5 fun _ K12 => ?_; simp (disch := omega) only [go_sem, Int.natAbs_natCast, sg_false]; refine ⟨_, c_integer_divide _ _ (by omega) (by omega) (by omega), ?_⟩; refine K12 _ ?_; simp (disch := omega) only [go_sem, Int.natAbs_natCast, sg_false]; refine K11 _ ?_; clear K12 K11; refine pwx_draw Tryz.mixed 0 [] (by rfl) [] (by kernel_rfl) (by simp) fun _ K13 => ?_; refine rgnX_take 3 fun _ K14 => ?_; simp (disch := omega) only [go_sem, Int.natAbs_natCast, sg_false, hr2]; refine ⟨_, c_integer_signed _ _ (divR_dig (by omega)) (by omega), ?_⟩; refine K14 _ ?_; simp (disch := omega) only [go_sem, Int.natAbs_natCast, sg_false, hr2]; refine K13 _ ?_; clear K14 K13; refine n_block ?_; refine n_then ?_; refine ⟨_, ?hdec, ⟨Y, X % Y, ?hf0, ?hf1, ?hf2, rfl, ?heq⟩, ?hok⟩
        case heq => first | rfl | simp [St.cut, keep]
        case hf0 => exact hY
        case hf1 => exact Nat.le_trans (limbs_len_mono (Nat.mod_le X Y)) hX
        case hf2 => rw [← hG, Nat.gcd_comm X Y, Nat.gcd_rec Y X, Nat.gcd_comm]
        case hdec => exact Nat.mod_lt _ hY0
        case hok => refine ⟨rfl, ?_, ?_⟩ <;> first | rfl | (simp [keep, PV.lt, PE.lt, PC.lt, Box.lt, ↓lC_lt]; done) | simp [keep, PV.lt, PE.lt, PC.lt, Box.lt, ↓lC_lt, ↓intC_lt, ↓ratC_lt, ↓u32s_lt]
      · refine pwx_sr 0 [some 33, some 34, some 35, some 36] (by rfl) fun _ K15 => ?_; simp (disch := omega) only [go_sem, Int.natAbs_natCast, sg_false]; refine K15 _ ?_; clear K15; refine pwp_cond (b := _) (by rfl) (fun hb2 => ?_) (fun hb2 => ?_)
        · have hu := word_val hwX; have hv := word_val hb2; refine pwp_seq ?_; refine pwp_block ?_; refine pwp_loopF (false :: false :: false :: false :: true :: true :: true :: true :: false :: true :: false :: false :: false :: false :: false :: false :: false :: false :: false :: false :: false :: false :: false :: false :: false :: false :: false :: false :: false :: false :: false :: false :: false :: false :: false :: false :: false :: false :: false :: false :: false :: false :: false :: false :: false :: false :: false :: false :: false :: false :: false :: false :: false :: false :: false :: false :: false :: false :: false :: false :: false :: []) 5 (fun M s => ∃ u : Nat, ∃ v : Nat, (u < 1000000000000000000) ∧ (v < 1000000000000000000) ∧ (Nat.gcd u v = Nat.gcd x.natAbs y.natAbs) ∧ v = M ∧ s = { slots := .j :: .j :: .j :: .j :: .e (.c (.ptr 2 0)) :: .e (.c (.ptr 3 0)) :: .e (.c (.ptr 4 0)) :: .e (.c (.int .u64 (u : Int))) :: .j :: .e (.c (.int .u64 (v : Int))) :: .j :: .j :: .j :: .j :: .j :: .j :: .j :: .j :: .j :: .j :: .j :: .j :: .j :: .j :: .j :: .j :: .j :: .j :: .j :: .j :: .j :: .j :: .j :: .j :: .j :: .j :: .j :: .j :: .j :: .j :: .j :: .j :: .j :: .j :: .j :: .j :: .j :: .j :: .j :: .j :: .j :: .j :: .j :: .j :: .j :: .j :: .j :: .j :: .j :: .j :: .j :: [], st := [.live (intC x), .live (intC y), .live [.bool false, .nils], .live (intC (X : Int)), .live (intC (Y : Int))] }) (n := Y) rfl ?_ ?_ ?_
          · refine ⟨X, Y, ?_, ?_, ?_, rfl, ?_⟩
            · exact hu.2
            · exact hv.2
            · exact hG
            · first | rfl | (simp only [hu.1, hv.1, St.cut, keep, if_true, if_false, Bool.false_eq_true, List.take_succ_cons, List.take_zero, List.take_nil]; try simp)
          · refine ⟨rfl, ?_, ?_⟩ <;> first | rfl | (simp [keep, PV.lt, PE.lt, PC.lt, Box.lt, ↓lC_lt]; done) | simp [keep, PV.lt, PE.lt, PC.lt, Box.lt, ↓lC_lt, ↓intC_lt, ↓ratC_lt, ↓u32s_lt]
          · rintro _ _ ⟨u, v, hu1, hv1, hG1, rfl, rfl⟩
            refine pwp_seq ?_; refine pwx_sr 0 [] (by rfl) fun _ K16 => ?_; simp (disch := omega) only [go_sem]; refine K16 _ ?_; clear K16; refine pwp_cond (b := _) (by rfl) (fun hb3 => ?_) (fun hb3 => ?_)
            · replace hb3 := of_decide_eq_true hb3
              have hv0 : 0 < v := by omega
              refine pwp_skip ?_; refine n_then ?_; refine pwp_block ?_; refine pwx_draw Tryz.mixed 0 [] (by rfl) [] (by kernel_rfl) (by simp) fun _ K17 => ?_; simp (disch := omega) only [go_sem]; refine K17 _ ?_; clear K17; refine n_block ?_; refine n_then ?_; refine ⟨_, ?hdec, ⟨v, u % v, ?hf0, ?hf1, ?hf2, rfl, ?heq⟩, ?hok⟩
              case heq => first | rfl | (simp only [hu.1, hv.1, St.cut, keep, if_true, if_false, Bool.false_eq_true, List.take_succ_cons, List.take_zero, List.take_nil]; try simp)
              case hf0 => omega
              case hf1 => have := Nat.mod_lt u hv0; omega
              case hf2 => rw [← hG1, Nat.gcd_comm u v, Nat.gcd_rec v u, Nat.gcd_comm]
              case hdec => exact Nat.mod_lt _ hv0
              case hok => refine ⟨rfl, ?_, ?_⟩ <;> first | rfl | (simp [keep, PV.lt, PE.lt, PC.lt, Box.lt, ↓lC_lt]; done) | simp [keep, PV.lt, PE.lt, PC.lt, Box.lt, ↓lC_lt, ↓intC_lt, ↓ratC_lt, ↓u32s_lt]
            · replace hb3 := of_decide_eq_false hb3
              obtain rfl : v = 0 := by omega
              refine pwp_exit ?_; refine e_then ?_; refine e_then ?_; refine e_here ?_; refine n_then ?_; refine pwx_sr 0 [] (by rfl) fun _ K18 => ?_; refine rgnX_take 2 fun _ K19 => ?_; simp (disch := omega) only [go_sem, Int.natAbs_natCast, sg_false, split_val]; refine ⟨_, c_integer_split _ (by omega), ?_⟩; refine K19 _ ?_; refine rgnX_take 1 fun _ K20 => ?_; simp (disch := omega) only [go_sem, Int.natAbs_natCast, sg_false, split_val]; refine ⟨_, c_integer_signed _ _ (split_dig (by omega)) (by simp), ?_⟩; refine K20 _ ?_; simp (disch := omega) only [go_sem, Int.natAbs_natCast, sg_false, split_val]; refine K18 _ ?_; clear K20 K19 K18; refine pwp_ret ?_; refine r_then ?_; refine r_block ?_; refine r_then ?_; refine r_block ?_; refine r_then ?_; refine ⟨Or.inr rfl, ?_⟩; simp (disch := omega) only [go_sem]; rw [← hG1, Nat.gcd_zero_right]
        · first | replace hb2 := of_decide_eq_false hb2 | skip
          refine pwp_skip ?_; refine n_then ?_; refine pwx_sr 0 [] (by rfl) fun _ K21 => ?_; refine rgnX_take 5 fun _ K22 => ?_; simp (disch := omega) only [go_sem, Int.natAbs_natCast, sg_false]; refine ⟨_, c_integer_divide _ _ (by omega) (by omega) (by omega), ?_⟩; refine K22 _ ?_; simp (disch := omega) only [go_sem, Int.natAbs_natCast, sg_false]; refine K21 _ ?_; clear K22 K21; refine pwx_draw Tryz.mixed 0 [] (by rfl) [] (by kernel_rfl) (by simp) fun _ K23 => ?_; refine rgnX_take 3 fun _ K24 => ?_; simp (disch := omega) only [go_sem, Int.natAbs_natCast, sg_false, hr2]; refine ⟨_, c_integer_signed _ _ (divR_dig (by omega)) (by omega), ?_⟩; refine K24 _ ?_; simp (disch := omega) only [go_sem, Int.natAbs_natCast, sg_false, hr2]; refine K23 _ ?_; clear K24 K23; refine n_block ?_; refine n_then ?_; refine ⟨_, ?hdec, ⟨Y, X % Y, ?hf0, ?hf1, ?hf2, rfl, ?heq⟩, ?hok⟩
          case heq => first | rfl | simp [St.cut, keep]
          case hf0 => exact hY
          case hf1 => exact Nat.le_trans (limbs_len_mono (Nat.mod_le X Y)) hX
          case hf2 => rw [← hG, Nat.gcd_comm X Y, Nat.gcd_rec Y X, Nat.gcd_comm]
          case hdec => exact Nat.mod_lt _ hY0
          case hok => refine ⟨rfl, ?_, ?_⟩ <;> first | rfl | (simp [keep, PV.lt, PE.lt, PC.lt, Box.lt, ↓lC_lt]; done) | simp [keep, PV.lt, PE.lt, PC.lt, Box.lt, ↓lC_lt, ↓intC_lt, ↓ratC_lt, ↓u32s_lt]
    · replace hb0 := of_decide_eq_false hb0; obtain rfl : Y = 0 := len_zero hb0; refine pwp_exit ?_; refine e_then ?_; refine e_then ?_; refine e_here ?_; refine n_then ?_; refine pwx_sr 1 [] (by rfl) fun _ K25 => ?_; refine rgnX_take 4 fun _ K26 => ?_; simp (disch := omega) only [go_sem, Int.natAbs_natCast, sg_false]; refine ⟨_, c_integer_signed _ _ (limbs_dig _) (by omega), ?_⟩; refine K26 _ ?_; simp (disch := omega) only [go_sem, Int.natAbs_natCast, sg_false]; refine K25 _ ?_; clear K26 K25; refine pwp_ret ?_; refine ⟨Or.inr rfl, ?_⟩; simp (disch := omega) only [go_sem]; rw [← hG, Nat.gcd_zero_right]
set_option maxHeartbeats 4000000 in
theorem c_integer_Sqrt (z : Int) (hz : (limbs z.natAbs).length ≤ 900000) :
    Ret Tryz.prog 129 [.a (intC z)] (.t [.a (intC (sqrtI z)), .c (.int .i64 (if z < 0 then 7 else 0))]) := by
  refine ret_of_body (md := {}) Tryz.func129 (by kernel_rfl) rfl ?_; simp only [Tryz.f129, go_sem, Nat.reduceAdd, Nat.reduceSub, List.reduceReplicate]; refine pwx_sr 2 [] (by rfl) fun _ K1 => ?_; simp (disch := omega) only [go_sem]; refine K1 _ ?_; clear K1; refine pwp_seq ?_; refine pwx_sr 0 [] (by rfl) fun _ K2 => ?_; simp (disch := omega) only [go_sem, Int.natAbs_natCast, sg_false, nc_ediv, nc_ediv2, nc_tdiv2]; refine K2 _ ?_; clear K2; refine pwp_cond (b := _) (by rfl) (fun hb0 => ?_) (fun hb0 => ?_)
  · first | replace hb0 := of_decide_eq_true hb0 | skip
    refine pwx_sr 0 [] (by rfl) fun _ K3 => ?_; simp (disch := omega) only [go_sem]; refine K3 _ ?_; clear K3; refine pwp_ret ?_; refine r_then ?_; refine ⟨Or.inr rfl, ?_⟩; simp (disch := omega) only [go_sem]
    rw [sqrtI_neg hb0]; exact intC_zero
  · replace hb0 := of_decide_eq_false hb0; obtain ⟨n, rfl⟩ := Int.eq_ofNat_of_zero_le (show 0 ≤ z by omega); rw [Int.natAbs_natCast] at hz; refine pwp_skip ?_; refine n_then ?_; refine pwp_seq ?_; refine pwx_sr 0 [] (by rfl) fun _ K4 => ?_; simp (disch := omega) only [go_sem, Int.natAbs_natCast, sg_false, nc_ediv, nc_ediv2, nc_tdiv2]; refine K4 _ ?_; clear K4; refine pwp_cond (b := _) (by rfl) (fun hb1 => ?_) (fun hb1 => ?_)
    · replace hb1 := of_decide_eq_true hb1; obtain rfl : n = 0 := len_zero (by omega); refine pwx_sr 0 [] (by rfl) fun _ K5 => ?_; simp (disch := omega) only [go_sem]; refine K5 _ ?_; clear K5; refine pwp_ret ?_; refine r_then ?_; refine ⟨Or.inr rfl, ?_⟩; simp (disch := omega) only [go_sem]
      rw [sqrtI_nat]; exact ⟨intC_zero, rfl⟩
    · replace hb1 := of_decide_eq_false hb1; have hn0 : 0 < n := len_pos (by omega); refine pwp_skip ?_; refine n_then ?_; refine pwx_sr 0 [] (by rfl) fun _ K6 => ?_; simp (disch := omega) only [go_sem, Int.natAbs_natCast, sg_false, nc_ediv, nc_ediv2, nc_tdiv2]; refine K6 _ ?_; clear K6; refine pwx_sr 4 [] (by rfl) fun _ K7 => ?_; refine rgnX_take 5 fun _ K8 => ?_; simp (disch := omega) only [go_sem, Int.natAbs_natCast, sg_false, le_F, u32s_cons1, u32s_append, List.take_replicate, Nat.min_self]; intro c hc; obtain ⟨hv0, hv1, hv2⟩ := sqrt_val0 (((limbs n).length + 1) / 2) (c - ((((limbs n).length + 1) / 2) + 1)); have hsl := sl_u32s hv1.symm; simp (disch := omega) only [go_sem, hsl]; refine Or.inl ⟨_, c_integer_signed _ _ hv2 (by omega), ?_⟩; rw [hv0]; refine K8 _ ?_; simp (disch := omega) only [go_sem, Int.natAbs_natCast, sg_false, le_F, u32s_cons1, u32s_append, List.take_replicate, Nat.min_self]; refine K7 _ ?_; clear K8 K7; refine pwx_sr 1 [] (by rfl) fun _ K9 => ?_; refine rgnX_take 1 fun _ K10 => ?_; simp (disch := omega) only [go_sem]; refine ⟨_, c_integer_FromInt64 _ (by omega) (by omega), ?_⟩; refine K10 _ ?_; simp (disch := omega) only [go_sem]; refine K9 _ ?_; clear K10 K9; refine pwp_block ?_; refine pwp_loopF (false :: true :: true :: true :: false :: true :: true :: false :: false :: false :: false :: false :: false :: false :: false :: false :: false :: false :: false :: false :: false :: false :: false :: false :: false :: false :: false :: false :: false :: false :: false :: false :: false :: false :: false :: false :: false :: false :: false :: false :: false :: false :: false :: false :: false :: false :: false :: false :: false :: false :: false :: false :: false :: false :: []) 7 (fun M s => ∃ X : Nat, (0 < X) ∧ (X ≤ BS ^ (((limbs n).length + 1) / 2)) ∧ (n < (X + 1) * (X + 1)) ∧ X = M ∧ s = { slots := .j :: .e (.c (.ptr 0 0)) :: .e (.c (.ptr 1 0)) :: .e (.c (.int .i64 0)) :: .j :: .e (.c (.ptr 5 0)) :: .e (.c (.ptr 6 0)) :: .j :: .j :: .j :: .j :: .j :: .j :: .j :: .j :: .j :: .j :: .j :: .j :: .j :: .j :: .j :: .j :: .j :: .j :: .j :: .j :: .j :: .j :: .j :: .j :: .j :: .j :: .j :: .j :: .j :: .j :: .j :: .j :: .j :: .j :: .j :: .j :: .j :: .j :: .j :: .j :: .j :: .j :: .j :: .j :: .j :: .j :: .j :: [], st := [.live (intC (n : Int)), .live [.bool false, .nils], .live (u32s (List.replicate (((limbs n).length + 1) / 2) 0)), .gone, .frz (u32s (List.replicate (((limbs n).length + 1) / 2) 0 ++ 1 :: List.replicate (c - ((((limbs n).length + 1) / 2) + 1)) 0)), .live (intC (X : Int)), .live (intC 2)] }) (n := BS ^ (((limbs n).length + 1) / 2)) rfl ?_ ?_ ?_
      · refine ⟨BS ^ (((limbs n).length + 1) / 2), ?_, ?_, ?_, rfl, ?_⟩
        · exact BS_pos _
        · exact Nat.le_refl _
        · exact sqrt_start
        · first | rfl | simp [St.cut, keep]
      · refine ⟨rfl, ?_, ?_⟩ <;> first | rfl | (simp [keep, PV.lt, PE.lt, PC.lt, Box.lt, ↓lC_lt]; done) | simp [keep, PV.lt, PE.lt, PC.lt, Box.lt, ↓lC_lt, ↓intC_lt, ↓ratC_lt, ↓u32s_lt]
      · rintro _ _ ⟨X, hX0, hXB, hXn, rfl, rfl⟩
        obtain ⟨hl1, hl2, hl3⟩ := sqrt_len hn0 hXB; have hnw := newton hX0 hXn hn0; have hl4 := limbs_len_mono (Nat.div_le_self (X + n / X) 2); refine pwp_block ?_; refine pwx_sr 2 [] (by rfl) fun _ K11 => ?_; refine rgnX_take 3 fun _ K12 => ?_; simp (disch := omega) only [go_sem, Int.natAbs_natCast, sg_false, nc_ediv, nc_ediv2, nc_tdiv2]; refine ⟨_, c_integer_DivMod _ _ (by simp only [Int.natAbs_natCast]; omega) (by simp only [Int.natAbs_natCast]; omega) (by omega), ?_⟩; refine K12 _ ?_; simp (disch := omega) only [go_sem, Int.natAbs_natCast, sg_false, nc_ediv, nc_ediv2, nc_tdiv2]; refine K11 _ ?_; clear K12 K11; refine pwx_sd Tryz.mixed 2 [] (by rfl) [] (by kernel_rfl) (by simp) fun _ K13 => ?_; refine rgnX_take 3 fun _ K14 => ?_; simp (disch := omega) only [go_sem, Int.natAbs_natCast, sg_false, nc_ediv, nc_ediv2, nc_tdiv2]; refine ⟨_, c_integer_Add _ _ (by simp only [Int.natAbs_natCast]; omega) (by simp only [Int.natAbs_natCast]; omega), ?_⟩; refine K14 _ ?_; refine rgnX_take 2 fun _ K15 => ?_; simp (disch := omega) only [go_sem, Int.natAbs_natCast, sg_false, nc_ediv, nc_ediv2, nc_tdiv2]; refine ⟨_, c_integer_DivMod _ 2 (by simp only [Int.natAbs_natCast]; omega) (by exact len_lit (k := 3) (by decide)) (by omega), ?_⟩; refine K15 _ ?_; simp (disch := omega) only [go_sem, Int.natAbs_natCast, sg_false, nc_ediv, nc_ediv2, nc_tdiv2]; refine K13 _ ?_; clear K15 K14 K13; refine pwp_seq ?_; refine pwx_sr 0 [] (by rfl) fun _ K16 => ?_; refine rgnX_take 3 fun _ K17 => ?_; simp (disch := omega) only [go_sem, Int.natAbs_natCast, sg_false, nc_ediv, nc_ediv2, nc_tdiv2]; refine ⟨_, c_integer_Cmp _ _ (by simp only [Int.natAbs_natCast]; omega) (by simp only [Int.natAbs_natCast]; omega), ?_⟩; refine K17 _ ?_; simp (disch := omega) only [go_sem, Int.natAbs_natCast, sg_false, nc_ediv, nc_ediv2, nc_tdiv2]; refine K16 _ ?_; clear K17 K16; refine pwp_cond (b := _) (by rfl) (fun hb2 => ?_) (fun hb2 => ?_)
        · replace hb2 := of_decide_eq_true hb2; have hXs := hnw.1 (by omega); refine pwx_sr 0 [] (by rfl) fun _ K18 => ?_; simp (disch := omega) only [go_sem, Int.natAbs_natCast, sg_false, nc_ediv, nc_ediv2, nc_tdiv2]; refine K18 _ ?_; clear K18; refine pwp_ret ?_; refine r_then ?_; refine r_block ?_; refine r_then ?_; refine r_block ?_; refine ⟨Or.inr rfl, ?_⟩; simp (disch := omega) only [go_sem]
          rw [sqrtI_nat, hXs]; exact ⟨rfl, if_neg (by omega)⟩
        · replace hb2 := of_decide_eq_false hb2; refine pwp_skip ?_; refine n_then ?_; refine pwx_region 0 [] (by rfl) fun _ K19 => ?_; simp (disch := omega) only [go_sem, Int.natAbs_natCast, sg_false, nc_ediv, nc_ediv2, nc_tdiv2]; refine K19 _ ?_; clear K19; refine n_block ?_; refine n_then ?_; refine ⟨_, ?hdec, ⟨(X + n / X) / 2, ?hf0, ?hf1, ?hf2, rfl, ?heq⟩, ?hok⟩
          case heq => first | rfl | simp [St.cut, keep]
          case hf0 => exact hnw.2.1
          case hf1 => omega
          case hf2 => exact hnw.2.2
          case hdec => omega
          case hok => refine ⟨rfl, ?_, ?_⟩ <;> first | rfl | (simp [keep, PV.lt, PE.lt, PC.lt, Box.lt, ↓lC_lt]; done) | simp [keep, PV.lt, PE.lt, PC.lt, Box.lt, ↓lC_lt, ↓intC_lt, ↓ratC_lt, ↓u32s_lt]

end Go.Proofs.YtdojhoegildiaaaGreat

namespace Go.PL
theorem signedR_f (n : Nat) : [PC.bool false, lC (limbs n)] = intC (sg false n) := by
  have h : decide (sg false n < 0) = false := by simp [sg]
  simp only [intC, sg_natAbs, h]
theorem signedR_t (n : Nat) : [PC.bool (decide (0 < ((limbs n).length : Int))), lC (limbs n)] = intC (sg true n) := by
  have h : decide (0 < ((limbs n).length : Int)) = decide (sg true n < 0) := by
    by_cases h0 : n = 0
    · subst h0; simp [limbs_zero, sg]
    · have := limbs_pos_len h0
      simp [sg]; omega
  simp only [intC, sg_natAbs, h]
theorem PlusI.md {a b out : List Nat} {i c t : Nat} (h : PlusI a b i out c) (ha : Dig a) (hb : Dig b) (ht : t = c + dg a i + dg b i) : PlusI a b (i + 1) (out ++ [t % 1000000000]) (t / 1000000000) := by
  have h1 := dg_lt9 ha i
  have h2 := dg_lt9 hb i
  have h3 := h.car
  by_cases hl : t < 1000000000
  · rw [Nat.mod_eq_of_lt hl, Nat.div_eq_of_lt hl]; exact h.lo9 (by omega) hl
  · have e : t / 1000000000 = 1 := by omega
    rw [e]; exact h.hi9 ha hb (by omega)
theorem plus_lt {A B : List Nat} (hA : Dig A) (hB : Dig B) (h : B.length ≤ A.length) : val A + val B < BS ^ (A.length + 1) := by
  have h1 := val_lt hA
  have h2 := val_lt hB
  have h3 : BS ^ B.length ≤ BS ^ A.length := Nat.pow_le_pow_right (by decide) h
  have h5 : BS ^ A.length * 2 ≤ BS ^ A.length * BS := Nat.mul_le_mul_left _ (by decide)
  rw [Nat.pow_succ]; omega
theorem u32s_ren (f : Nat → Nat) (l : List Nat) : (u32s l).map (PC.ren f) = u32s l := by
  simp only [u32s, List.map_map]
  exact List.map_congr_left fun _ _ => rfl
theorem intC_ren (f : Nat → Nat) (z : Int) : (intC z).map (PC.ren f) = intC z := rfl
theorem ratC_ren (f : Nat → Nat) (q : Rat) : (ratC q).map (PC.ren f) = ratC q := rfl
theorem lC_ren (f : Nat → Nat) (l : List Nat) : (lC l).ren f = lC l := rfl
theorem limbs_step {u v : Nat} {out : List Nat} (h : limbs u = out ++ limbs v) (hv : 0 < v) : limbs u = (out ++ [v % 1000000000]) ++ limbs (v / 1000000000) := by
  rw [h, limbs_pos (by omega), List.append_assoc]; rfl
theorem rep_app (l : List Nat) (x k : Nat) : l ++ x :: List.replicate k 0 = (l ++ [x]) ++ List.replicate k 0 := by simp
theorem limbs_plus_len (x y : Nat) : (limbs (x + y)).length ≤ max (limbs x).length (limbs y).length + 1 := by
  have h1 := limbs_lt x
  have h2 := limbs_lt y
  refine limbs_len ?_
  have h3 : BS ^ (limbs x).length ≤ BS ^ max (limbs x).length (limbs y).length := Nat.pow_le_pow_right (by decide) (by omega)
  have h4 : BS ^ (limbs y).length ≤ BS ^ max (limbs x).length (limbs y).length := Nat.pow_le_pow_right (by decide) (by omega)
  have h5 : BS ^ max (limbs x).length (limbs y).length * 2 ≤ BS ^ max (limbs x).length (limbs y).length * BS := Nat.mul_le_mul_left _ (by decide)
  rw [Nat.pow_succ]; omega
theorem limbs_mul_len (x y : Nat) : (limbs (x * y)).length ≤ (limbs x).length + (limbs y).length := by
  refine limbs_len ?_
  rw [Nat.pow_add]
  exact Nat.mul_lt_mul'' (limbs_lt x) (limbs_lt y)
theorem cmpN_gez {a b : Nat} : 0 ≤ cmpN a b ↔ b ≤ a := by unfold cmpN; split <;> (try split) <;> omega
theorem cmpN_eqz {a b : Nat} : cmpN a b = 0 ↔ a = b := by unfold cmpN; split <;> (try split) <;> omega
theorem same_f {x y : Int} (h : (decide (x < 0) == decide (y < 0)) = false) : decide (x = y) = false := by
  rw [decide_eq_false_iff_not]; rintro rfl; simp at h
theorem same_t {x y : Int} (h : (decide (x < 0) == decide (y < 0)) = true) : decide (x = y) = decide (cmpN x.natAbs y.natAbs = 0) := by
  have h1 : x < 0 ↔ y < 0 := dec_eq' h
  rw [decide_eq_decide, cmpN_eqz]; omega
def Grow (out : List Nat) (v : PC) (σ : List Box) : Prop :=
  (v = .nils ∧ out = [] ∧ σ = []) ∨ ∃ cap, v = .msl 0 0 out.length cap 1 ∧ out.length ≤ cap ∧ σ = [.live (u32s (out ++ List.replicate (cap - out.length) 0))]
theorem Grow.cases3 {out : List Nat} {v : PC} {σ : List Box} (h : Grow out v σ) : (v = .nils ∧ out = [] ∧ σ = []) ∨
    (∃ cap, v = .msl 0 0 out.length cap 1 ∧ out.length ≤ cap ∧ out.length + 1 ≤ cap ∧ σ = [.live (u32s (out ++ List.replicate (cap - out.length) 0))]) ∨
    (∃ cap, v = .msl 0 0 out.length cap 1 ∧ out.length ≤ cap ∧ ¬ out.length + 1 ≤ cap ∧ σ = [.live (u32s (out ++ List.replicate (cap - out.length) 0))]) := by
  rcases h with h | ⟨cap, h1, h2, h3⟩
  · exact .inl h
  · by_cases hc : out.length + 1 ≤ cap
    · exact .inr (.inl ⟨cap, h1, h2, hc, h3⟩)
    · exact .inr (.inr ⟨cap, h1, h2, hc, h3⟩)
theorem Grow.start : Grow [] .nils [] := .inl ⟨rfl, rfl, rfl⟩
theorem Grow.nextN {x c : Nat} (h : 1 ≤ c) : Grow ([] ++ [x]) (.msl 0 0 1 c 1) [.live (PC.int .u32 (x : Int) :: u32s (List.replicate (c - 1) 0))] :=
  .inr ⟨c, rfl, h, rfl⟩
theorem Grow.nextI {out : List Nat} {x cap : Nat} (h : out.length + 1 ≤ cap) : Grow (out ++ [x]) (.msl 0 0 (out.length + 1) cap 1) [.live (u32s (out ++ x :: List.replicate (cap - out.length - 1) 0))] :=
  .inr ⟨cap, by simp, by simp; exact h, by rw [rep_app, Nat.sub_sub]; simp⟩
theorem Grow.nextG {out : List Nat} {x c cap : Nat} (h : out.length + 1 ≤ c) : Grow (out ++ [x]) (.msl 0 0 (out.length + 1) c 1) [.live (u32s ((out ++ List.replicate (cap - out.length) 0).take out.length ++ x :: List.replicate (c - (out.length + 1)) 0))] :=
  .inr ⟨c, by simp, by simp; exact h, by rw [List.take_append_of_le_length (Nat.le_refl _), List.take_length, rep_app]; simp⟩
end Go.PL

set_option linter.unusedSimpArgs false
set_option linter.unusedVariables false
set_option maxRecDepth 20000
namespace Go.Proofs.YtdojhoegildiaaaGreat
open Go Go.PL
set_option maxHeartbeats 4000000 in
theorem c_swarfref01_trim (l : List Nat) (hdl : Dig l) (hll : l.length ≤ 4000000) :
    Ret Tryz.prog 108 [.c (lC l)] (.e (.c (lC (limbs (val l))))) := by
  refine ret_of_body (md := {}) Tryz.func108 (by kernel_rfl) rfl ?_; simp only [Tryz.f108, go_sem, Nat.reduceAdd, Nat.reduceSub, List.reduceReplicate]; refine pwx_sr 0 [] (by rfl) fun _ K1 => ?_; simp (disch := omega) only [go_sem]; refine K1 _ ?_; clear K1; refine pwp_seq ?_; refine pwp_block ?_; refine pwp_loopF (true :: false :: false :: false :: false :: false :: false :: false :: false :: false :: false :: false :: false :: false :: false :: false :: false :: false :: false :: false :: false :: []) 0 (fun M s => ∃ n : Nat, (n ≤ l.length) ∧ (vt l n = val l) ∧ n = M ∧ s = { slots := .e (.c (lC (l.take n))) :: .j :: .j :: .j :: .j :: .j :: .j :: .j :: .j :: .j :: .j :: .j :: .j :: .j :: .j :: .j :: .j :: .j :: .j :: .j :: .j :: [], st := [] }) (n := l.length) rfl ?_ ?_ ?_
  · refine ⟨l.length, ?_, ?_, rfl, ?_⟩
    · exact Nat.le_refl _
    · exact vt_all (Nat.le_refl _)
    · first | rfl | simp [St.cut, keep]
  · refine ⟨rfl, ?_, ?_⟩ <;> first | rfl | (simp [keep, PV.lt, PE.lt, PC.lt, Box.lt, ↓lC_lt]; done) | simp [keep, PV.lt, PE.lt, PC.lt, Box.lt, ↓lC_lt, ↓intC_lt, ↓ratC_lt, ↓u32s_lt]
  · rintro _ _ ⟨n, h1, h2, rfl, rfl⟩
    have ht : (l.take n).length = n := by simp; omega
    refine pwp_seq ?_; by_cases hn : n = 0
    · refine pwx_sr 0 [some 3, some 4, some 5, some 6, some 7, some 8, some 9, some 10, some 11, some 12, some 13, some 14] (by rfl) fun _ K2 => ?_; simp (disch := omega) only [go_sem, ht]; refine K2 _ ?_; clear K2; refine pwp_cond (b := false) (by rfl) (fun h => nomatch h) (fun _ => ?_); refine pwp_exit ?_; refine e_then ?_; refine e_then ?_; refine e_here ?_; refine n_then ?_; refine pwx_sr 0 [] (by rfl) fun _ K3 => ?_; simp (disch := omega) only [go_sem]; refine K3 _ ?_; clear K3; refine pwp_ret ?_; refine ⟨Or.inr rfl, ?_⟩; simp (disch := omega) only [go_sem]; rw [trim_done hdl h1 h2 (.inl hn)]
    · refine pwx_sr 0 [some 3, some 4, some 5, some 6, some 7, some 8, some 9, some 10, some 11, some 12, some 13, some 14] (by rfl) fun _ K4 => ?_; simp (disch := omega) only [go_sem, ht]; refine K4 _ ?_; clear K4; refine pwp_cond (b := _) (by rfl) (fun hb1 => ?_) (fun hb1 => ?_)
      · have hz : dg l (n - 1) = 0 := by simpa [dg_take (show n - 1 < n by omega)] using hb1
        refine pwp_skip ?_; refine n_then ?_; refine pwp_block ?_; refine pwx_region 0 [] (by rfl) fun _ K5 => ?_; simp (disch := omega) only [go_sem, ht, List.take_take, Nat.min_eq_left (Nat.sub_le n 1)]; refine K5 _ ?_; clear K5; refine n_block ?_; refine n_then ?_; refine ⟨_, ?hdec, ⟨n - 1, ?hf0, ?hf1, rfl, ?heq⟩, ?hok⟩
        case heq => first | rfl | simp [St.cut, keep]
        case hf0 => omega
        case hf1 => exact trim_step h2 (by omega) hz
        case hdec => omega
        case hok => refine ⟨rfl, ?_, ?_⟩ <;> first | rfl | (simp [keep, PV.lt, PE.lt, PC.lt, Box.lt, ↓lC_lt]; done) | simp [keep, PV.lt, PE.lt, PC.lt, Box.lt, ↓lC_lt, ↓intC_lt, ↓ratC_lt, ↓u32s_lt]
      · have hz : dg l (n - 1) ≠ 0 := by simpa [dg_take (show n - 1 < n by omega)] using hb1
        refine pwp_exit ?_; refine e_then ?_; refine e_then ?_; refine e_here ?_; refine n_then ?_; refine pwx_sr 0 [] (by rfl) fun _ K6 => ?_; simp (disch := omega) only [go_sem]; refine K6 _ ?_; clear K6; refine pwp_ret ?_; refine ⟨Or.inr rfl, ?_⟩; simp (disch := omega) only [go_sem]; rw [trim_done hdl h1 h2 (.inr hz)]
set_option maxHeartbeats 4000000 in
theorem c_swarfref01_signed (neg : Bool) (l : List Nat) (hdl : Dig l) (hll : l.length ≤ 4000000) :
    Ret Tryz.prog 90 [.c (.bool neg), .c (lC l)] (.e (.a (intC (sg neg (val l))))) := by
  refine ret_of_body (md := {}) Tryz.func90 (by kernel_rfl) rfl ?_; simp only [Tryz.f90, go_sem, Nat.reduceAdd, Nat.reduceSub, List.reduceReplicate]; refine pwx_sr 1 [] (by rfl) fun _ K1 => ?_; simp (disch := omega) only [go_sem]; refine K1 _ ?_; clear K1; refine pwx_sr 0 [] (by rfl) fun _ K2 => ?_; refine rgnX_take 2 fun _ K3 => ?_; simp (disch := omega) only [go_sem]; refine ⟨_, c_swarfref01_trim _ (by first | assumption | exact limbs_dig _) (by omega), ?_⟩; refine K3 _ ?_; simp (disch := omega) only [go_sem]; refine K2 _ ?_; clear K3 K2
  cases neg
  · refine pwx_sr 0 [some 7, some 8, some 9, some 10, some 11, some 12, some 13, some 14, none] (by rfl) fun _ K4 => ?_; simp (disch := omega) only [go_sem]; refine K4 _ ?_; clear K4; refine pwp_ret ?_; refine ⟨Or.inr rfl, ?_⟩; simp (disch := omega) only [go_sem]
    first | exact (signedR_f _).symm | exact (signedR_t _).symm
  · refine pwx_sr 0 [some 7, some 8, some 9, some 10, some 11, some 12, some 13, some 14, none] (by rfl) fun _ K5 => ?_; simp (disch := omega) only [go_sem]; refine K5 _ ?_; clear K5; refine pwp_ret ?_; refine ⟨Or.inr rfl, ?_⟩; simp (disch := omega) only [go_sem]
    first | exact (signedR_f _).symm | exact (signedR_t _).symm
set_option maxHeartbeats 4000000 in
theorem c_swarfref01_compare (x y : Nat) (hlx : (limbs x).length ≤ 4000000) (hly : (limbs y).length ≤ 4000000) :
    Ret Tryz.prog 97 [.c (lC (limbs x)), .c (lC (limbs y))] (.e (.c (.int .i64 (cmpN x y)))) := by
  refine ret_of_body (md := {}) Tryz.func97 (by kernel_rfl) rfl ?_; simp only [Tryz.f97, go_sem, Nat.reduceAdd, Nat.reduceSub, List.reduceReplicate]; have hdA := limbs_dig x; have hdB := limbs_dig y; refine pwx_sr 0 [] (by rfl) fun _ K1 => ?_; simp (disch := omega) only [go_sem]; refine K1 _ ?_; clear K1; refine pwp_seq ?_; refine pwx_sr 0 [] (by rfl) fun _ K2 => ?_; simp (disch := omega) only [go_sem]; refine K2 _ ?_; clear K2; refine pwp_cond (b := _) (by rfl) (fun hb0 => ?_) (fun hb0 => ?_)
  · have hne : (limbs x).length ≠ (limbs y).length := by simp at hb0; omega
    refine pwp_seq ?_; refine pwx_sr 0 [] (by rfl) fun _ K3 => ?_; simp (disch := omega) only [go_sem]; refine K3 _ ?_; clear K3; refine pwp_cond (b := _) (by rfl) (fun hb1 => ?_) (fun hb1 => ?_)
    · have hlt : (limbs x).length < (limbs y).length := by simpa using hb1
      refine pwx_sr 0 [] (by rfl) fun _ K4 => ?_; simp (disch := omega) only [go_sem]; refine K4 _ ?_; clear K4; refine pwp_ret ?_; refine r_then ?_; refine r_then ?_; refine ⟨Or.inr rfl, ?_⟩; simp (disch := omega) only [go_sem]; rw [cmpN_lt (limbs_lt_len hlt)]
    · have hlt : ¬ (limbs x).length < (limbs y).length := by simpa using hb1
      refine pwp_skip ?_; refine n_then ?_; refine pwx_sr 0 [] (by rfl) fun _ K5 => ?_; simp (disch := omega) only [go_sem]; refine K5 _ ?_; clear K5; refine pwp_ret ?_; refine r_then ?_; refine ⟨Or.inr rfl, ?_⟩; simp (disch := omega) only [go_sem]; rw [cmpN_gt (limbs_lt_len (by omega))]
  · have hlen : (limbs x).length = (limbs y).length := by simp at hb0; omega
    refine pwp_skip ?_; refine n_then ?_; refine pwp_seq ?_; refine pwx_sr 0 [] (by rfl) fun _ K6 => ?_; simp (disch := omega) only [go_sem]; refine K6 _ ?_; clear K6; refine pwp_block ?_; refine pwp_loopF (true :: true :: false :: false :: false :: true :: false :: false :: false :: false :: false :: false :: false :: false :: false :: false :: false :: false :: false :: false :: false :: false :: false :: false :: false :: false :: false :: false :: false :: false :: false :: false :: false :: false :: false :: false :: false :: false :: false :: false :: false :: []) 0 (fun M s => ∃ k : Nat, (k ≤ (limbs x).length) ∧ (val (limbs x) + vt (limbs y) k = val (limbs y) + vt (limbs x) k) ∧ k = M ∧ s = { slots := .e (.c (lC (limbs x))) :: .e (.c (lC (limbs y))) :: .j :: .j :: .j :: .e (.c (.int .i64 ((k : Int) - 1))) :: .j :: .j :: .j :: .j :: .j :: .j :: .j :: .j :: .j :: .j :: .j :: .j :: .j :: .j :: .j :: .j :: .j :: .j :: .j :: .j :: .j :: .j :: .j :: .j :: .j :: .j :: .j :: .j :: .j :: .j :: .j :: .j :: .j :: .j :: .j :: [], st := [] }) (n := (limbs x).length) rfl ?_ ?_ ?_
    · refine ⟨(limbs x).length, ?_, ?_, rfl, ?_⟩
      · exact Nat.le_refl _
      · rw [vt_all (by omega), vt_all (Nat.le_refl _)]; omega
      · first | rfl | simp [St.cut, keep]
    · refine ⟨rfl, ?_, ?_⟩ <;> first | rfl | (simp [keep, PV.lt, PE.lt, PC.lt, Box.lt, ↓lC_lt]; done) | simp [keep, PV.lt, PE.lt, PC.lt, Box.lt, ↓lC_lt, ↓intC_lt, ↓ratC_lt, ↓u32s_lt]
    · rintro _ _ ⟨k, h1, h2, rfl, rfl⟩
      refine pwp_seq ?_; refine pwx_sr 0 [] (by rfl) fun _ K7 => ?_; simp (disch := omega) only [go_sem]; refine K7 _ ?_; clear K7; refine pwp_cond (b := _) (by rfl) (fun hb2 => ?_) (fun hb2 => ?_)
      · have hk : 0 < k := by simp at hb2; omega
        obtain ⟨k, rfl⟩ : ∃ j, k = j + 1 := ⟨k - 1, by omega⟩; refine pwp_skip ?_; refine n_then ?_; refine pwp_seq ?_; refine pwp_block ?_; refine pwp_seq ?_; refine pwx_sd Tryz.mixed 0 [] (by rfl) [] (by kernel_rfl) (by simp) fun _ K8 => ?_; simp (disch := omega) only [go_sem]; refine K8 _ ?_; clear K8; refine pwp_cond (b := _) (by rfl) (fun hb3 => ?_) (fun hb3 => ?_)
        · have hd : dg (limbs x) k < dg (limbs y) k := by simpa using hb3
          refine pwx_sr 0 [] (by rfl) fun _ K9 => ?_; simp (disch := omega) only [go_sem]; refine K9 _ ?_; clear K9; refine pwp_ret ?_; refine r_then ?_; refine r_block ?_; refine r_then ?_; refine r_then ?_; refine r_block ?_; refine r_then ?_; refine ⟨Or.inr rfl, ?_⟩; simp (disch := omega) only [go_sem]
          have := cmp_lt hdA h2 hd; rw [limbs_val, limbs_val] at this; rw [cmpN_lt this]
        · have hd : ¬ dg (limbs x) k < dg (limbs y) k := by simpa using hb3
          refine pwp_skip ?_; refine n_then ?_; refine pwx_sd Tryz.mixed 0 [] (by rfl) [] (by kernel_rfl) (by simp) fun _ K10 => ?_; simp (disch := omega) only [go_sem]; refine K10 _ ?_; clear K10; refine pwp_cond (b := _) (by rfl) (fun hb4 => ?_) (fun hb4 => ?_)
          · have hd' : dg (limbs y) k < dg (limbs x) k := by simpa using hb4
            refine pwx_sr 0 [] (by rfl) fun _ K11 => ?_; simp (disch := omega) only [go_sem]; refine K11 _ ?_; clear K11; refine pwp_ret ?_; refine r_block ?_; refine r_then ?_; refine r_then ?_; refine r_block ?_; refine r_then ?_; refine ⟨Or.inr rfl, ?_⟩; simp (disch := omega) only [go_sem]
            have := cmp_lt hdB h2.symm hd'; rw [limbs_val, limbs_val] at this; rw [cmpN_gt this]
          · have hd' : ¬ dg (limbs y) k < dg (limbs x) k := by simpa using hb4
            refine pwp_skip ?_; refine n_block ?_; refine n_then ?_; refine pwx_region 0 [] (by rfl) fun _ K12 => ?_; simp (disch := omega) only [go_sem]; refine K12 _ ?_; clear K12; refine n_then ?_; refine ⟨_, ?hdec, ⟨k, ?hf0, ?hf1, rfl, ?heq⟩, ?hok⟩
            case heq => first | rfl | simp [St.cut, keep]
            case hf0 => omega
            case hf1 => exact cmp_step h2 (by omega)
            case hdec => omega
            case hok => refine ⟨rfl, ?_, ?_⟩ <;> first | rfl | (simp [keep, PV.lt, PE.lt, PC.lt, Box.lt, ↓lC_lt]; done) | simp [keep, PV.lt, PE.lt, PC.lt, Box.lt, ↓lC_lt, ↓intC_lt, ↓ratC_lt, ↓u32s_lt]
      · have hk : k = 0 := by simp at hb2; omega
        refine pwp_exit ?_; refine e_then ?_; refine e_then ?_; refine e_here ?_; refine n_then ?_; refine pwx_sr 0 [] (by rfl) fun _ K13 => ?_; simp (disch := omega) only [go_sem]; refine K13 _ ?_; clear K13; refine pwp_ret ?_; refine ⟨Or.inr rfl, ?_⟩; simp (disch := omega) only [go_sem]
        have := cmp_done h2 hk; rw [limbs_val, limbs_val] at this; rw [cmpN_eq this]

end Go.Proofs.YtdojhoegildiaaaGreat

set_option linter.unusedSimpArgs false
set_option linter.unusedVariables false
set_option maxRecDepth 20000
namespace Go.Proofs.YtdojhoegildiaaaGreat
open Go Go.PL
set_option maxHeartbeats 4000000 in
theorem c_swarfref01_plus (a : List Nat) (hda : Dig a) (hla : a.length ≤ 3000000) (b : List Nat) (hdb : Dig b) (hlb : b.length ≤ 3000000) :
    Ret Tryz.prog 96 [.c (lC a), .c (lC b)] (.e (.c (lC (limbs (val a + val b))))) := by
  refine ret_of_body (md := {}) Tryz.func96 (by kernel_rfl) rfl ?_; simp only [Tryz.f96, go_sem, Nat.reduceAdd, Nat.reduceSub, List.reduceReplicate]; refine pwx_sr 0 [] (by rfl) fun _ K1 => ?_; simp (disch := omega) only [go_sem]; refine K1 _ ?_; clear K1; refine pwp_join (true :: true :: false :: false :: false :: false :: false :: false :: false :: false :: false :: false :: false :: false :: false :: false :: false :: false :: false :: false :: false :: false :: false :: false :: false :: false :: false :: false :: false :: false :: false :: false :: false :: false :: false :: false :: false :: false :: false :: false :: false :: false :: false :: false :: false :: false :: false :: false :: false :: false :: false :: false :: false :: false :: false :: []) 0 (fun s => ∃ A : List Nat, ∃ B : List Nat, (Dig A) ∧ (Dig B) ∧ (A.length ≤ 3000000) ∧ (B.length ≤ 3000000) ∧ (B.length ≤ A.length) ∧ (val A + val B = val a + val b) ∧ s = { slots := .e (.c (lC A)) :: .e (.c (lC B)) :: .j :: .j :: .j :: .j :: .j :: .j :: .j :: .j :: .j :: .j :: .j :: .j :: .j :: .j :: .j :: .j :: .j :: .j :: .j :: .j :: .j :: .j :: .j :: .j :: .j :: .j :: .j :: .j :: .j :: .j :: .j :: .j :: .j :: .j :: .j :: .j :: .j :: .j :: .j :: .j :: .j :: .j :: .j :: .j :: .j :: .j :: .j :: .j :: .j :: .j :: .j :: .j :: .j :: [], st := [] }) rfl ?_ ?_
  · refine pwx_sr 0 [] (by rfl) fun _ K2 => ?_; simp (disch := omega) only [go_sem]; refine K2 _ ?_; clear K2; refine pwp_cond (b := _) (by rfl) (fun hb0 => ?_) (fun hb0 => ?_)
    · first | replace hb0 := of_decide_eq_true hb0 | skip
      refine pwx_region 0 [] (by rfl) fun _ K3 => ?_; simp (disch := omega) only [go_sem]; refine K3 _ ?_; clear K3; refine n_then ?_; refine ⟨⟨b, a, ?hf0, ?hf1, ?hf2, ?hf3, ?hf4, ?hf5, ?heq⟩, ?hok⟩
      case heq => first | rfl | simp [St.cut, keep]
      case hf0 => assumption
      case hf1 => assumption
      case hf2 => omega
      case hf3 => omega
      case hf4 => omega
      case hf5 => omega
      case hok => refine ⟨rfl, ?_, ?_⟩ <;> first | rfl | (simp [keep, PV.lt, PE.lt, PC.lt, Box.lt, ↓lC_lt]; done) | simp [keep, PV.lt, PE.lt, PC.lt, Box.lt, ↓lC_lt, ↓intC_lt, ↓ratC_lt, ↓u32s_lt]
    · first | replace hb0 := of_decide_eq_false hb0 | skip
      refine pwp_skip ?_; refine n_then ?_; refine ⟨⟨a, b, ?hf0, ?hf1, ?hf2, ?hf3, ?hf4, ?hf5, ?heq⟩, ?hok⟩
      case heq => first | rfl | simp [St.cut, keep]
      case hf0 => assumption
      case hf1 => assumption
      case hf2 => omega
      case hf3 => omega
      case hf4 => omega
      case hf5 => omega
      case hok => refine ⟨rfl, ?_, ?_⟩ <;> first | rfl | (simp [keep, PV.lt, PE.lt, PC.lt, Box.lt, ↓lC_lt]; done) | simp [keep, PV.lt, PE.lt, PC.lt, Box.lt, ↓lC_lt, ↓intC_lt, ↓ratC_lt, ↓u32s_lt]
  · rintro _ ⟨A, B, hdA, hdB, hlA, hlB, hAB, hsum, rfl⟩
    rw [← hsum]; refine pwx_sr 1 [] (by rfl) fun _ K4 => ?_; simp (disch := omega) only [go_sem]; refine K4 _ ?_; clear K4; refine pwx_sr 0 [] (by rfl) fun _ K5 => ?_; simp (disch := omega) only [go_sem]; refine K5 _ ?_; clear K5; refine pwp_seq ?_; refine pwx_sr 0 [] (by rfl) fun _ K6 => ?_; simp (disch := omega) only [go_sem]; refine K6 _ ?_; clear K6; refine pwp_block ?_; refine pwp_loopF (true :: true :: false :: false :: false :: true :: true :: true :: false :: false :: false :: false :: false :: false :: false :: false :: false :: false :: false :: false :: false :: false :: false :: false :: false :: false :: false :: false :: false :: false :: false :: false :: false :: false :: false :: false :: false :: false :: false :: false :: false :: false :: false :: false :: false :: false :: false :: false :: false :: false :: false :: false :: false :: false :: false :: []) 1 (fun M s => ∃ i : Nat, ∃ out : List Nat, ∃ c : Nat, ∃ r : Nat, (i ≤ A.length) ∧ (i + r = A.length + 1) ∧ (PlusI A B i out c) ∧ A.length - i = M ∧ s = { slots := .e (.c (lC A)) :: .e (.c (lC B)) :: .j :: .j :: .j :: .e (.c (.msl 0 0 (A.length + 1) (A.length + 1) 1)) :: .e (.c (.int .u32 (c : Int))) :: .e (.c (.int .i64 (i : Int))) :: .j :: .j :: .j :: .j :: .j :: .j :: .j :: .j :: .j :: .j :: .j :: .j :: .j :: .j :: .j :: .j :: .j :: .j :: .j :: .j :: .j :: .j :: .j :: .j :: .j :: .j :: .j :: .j :: .j :: .j :: .j :: .j :: .j :: .j :: .j :: .j :: .j :: .j :: .j :: .j :: .j :: .j :: .j :: .j :: .j :: .j :: .j :: [], st := [.live (u32s (out ++ List.replicate r 0))] }) (n := A.length - 0) rfl ?_ ?_ ?_
    · refine ⟨0, [], 0, A.length + 1, ?_, ?_, ?_, rfl, ?_⟩
      · omega
      · omega
      · exact PlusI.zero A B
      · first | rfl | simp [St.cut, keep]
    · refine ⟨rfl, ?_, ?_⟩ <;> first | rfl | (simp [keep, PV.lt, PE.lt, PC.lt, Box.lt, ↓lC_lt]; done) | simp [keep, PV.lt, PE.lt, PC.lt, Box.lt, ↓lC_lt, ↓intC_lt, ↓ratC_lt, ↓u32s_lt]
    · rintro _ _ ⟨i, out, c, r, hi0, hr, hI, rfl, rfl⟩
      have hlen := hI.len; have hc := hI.car; have hx := dg_lt9 hdA i; have hy := dg_lt9 hdB i; refine pwp_seq ?_; refine pwx_sr 0 [] (by rfl) fun _ K7 => ?_; simp (disch := omega) only [go_sem]; refine K7 _ ?_; clear K7; refine pwp_cond (b := _) (by rfl) (fun hb1 => ?_) (fun hb1 => ?_)
      · first | replace hb1 := of_decide_eq_true hb1 | skip
        refine pwp_skip ?_; refine n_then ?_; refine pwp_seq ?_; refine pwp_block ?_; refine pwx_sr 0 [] (by rfl) fun _ K8 => ?_; simp (disch := omega) only [go_sem]; refine K8 _ ?_; clear K8; refine pwp_seq ?_; refine pwx_sr 0 [] (by rfl) fun _ K9 => ?_; simp (disch := omega) only [go_sem]; refine K9 _ ?_; clear K9; refine pwp_cond (b := _) (by rfl) (fun hb2 => ?_) (fun hb2 => ?_)
        · first | replace hb2 := of_decide_eq_true hb2 | skip
          refine pwx_region 0 [] (by rfl) fun _ K10 => ?_; simp (disch := omega) only [go_sem]; refine K10 _ ?_; clear K10; refine n_then ?_; refine pwx_sr 0 [] (by rfl) fun _ K11 => ?_; simp (disch := omega) only [go_sem]; refine K11 _ ?_; clear K11; refine pwx_region 0 [] (by rfl) fun _ K12 => ?_; simp (disch := omega) only [go_sem]; refine K12 _ ?_; clear K12; refine n_block ?_; refine n_then ?_; refine pwx_region 0 [] (by rfl) fun _ K13 => ?_; simp (disch := omega) only [go_sem]; refine K13 _ ?_; clear K13; refine n_then ?_; refine ⟨_, ?hdec, ⟨i + 1, out ++ [(c + dg A i + dg B i) % 1000000000], (c + dg A i + dg B i) / 1000000000, r - 1, ?hf0, ?hf1, ?hf2, rfl, ?heq⟩, ?hok⟩
          case heq => first | rfl | simp [St.cut, keep]
          case hf0 => omega
          case hf1 => omega
          case hf2 => exact hI.md hdA hdB rfl
          case hdec => omega
          case hok => refine ⟨rfl, ?_, ?_⟩ <;> first | rfl | (simp [keep, PV.lt, PE.lt, PC.lt, Box.lt, ↓lC_lt]; done) | simp [keep, PV.lt, PE.lt, PC.lt, Box.lt, ↓lC_lt, ↓intC_lt, ↓ratC_lt, ↓u32s_lt]
        · first | replace hb2 := of_decide_eq_false hb2 | skip
          refine pwp_skip ?_; refine n_then ?_; refine pwx_sr 0 [] (by rfl) fun _ K14 => ?_; simp (disch := omega) only [go_sem]; refine K14 _ ?_; clear K14; refine pwx_region 0 [] (by rfl) fun _ K15 => ?_; simp (disch := omega) only [go_sem]; refine K15 _ ?_; clear K15; refine n_block ?_; refine n_then ?_; refine pwx_region 0 [] (by rfl) fun _ K16 => ?_; simp (disch := omega) only [go_sem]; refine K16 _ ?_; clear K16; refine n_then ?_; refine ⟨_, ?hdec, ⟨i + 1, out ++ [(c + dg A i) % 1000000000], (c + dg A i) / 1000000000, r - 1, ?hf0, ?hf1, ?hf2, rfl, ?heq⟩, ?hok⟩
          case heq => first | rfl | simp [St.cut, keep]
          case hf0 => omega
          case hf1 => omega
          case hf2 => exact hI.md hdA hdB (by rw [dg_out (l := B) (i := i) (by omega)]; omega)
          case hdec => omega
          case hok => refine ⟨rfl, ?_, ?_⟩ <;> first | rfl | (simp [keep, PV.lt, PE.lt, PC.lt, Box.lt, ↓lC_lt]; done) | simp [keep, PV.lt, PE.lt, PC.lt, Box.lt, ↓lC_lt, ↓intC_lt, ↓ratC_lt, ↓u32s_lt]
      · replace hb1 := of_decide_eq_false hb1
        obtain rfl : i = A.length := by omega
        refine pwp_exit ?_; refine e_then ?_; refine e_then ?_; refine e_here ?_; refine n_then ?_; refine pwx_sr 0 [] (by rfl) fun _ K17 => ?_; simp (disch := omega) only [go_sem]; refine K17 _ ?_; clear K17
        obtain rfl : r = 1 := by omega
        have hsl : PC.sl (A.length + 1) (u32s (List.take (A.length + 1) (out ++ [c]))) = lC (fl (A.length + 1) (val A + val B)) := by rw [List.take_of_length_le (by simp [hlen]), hI.done hAB, sl_u32s (by simp)]
        have hv : val (fl (A.length + 1) (val A + val B)) = val A + val B := by rw [← hI.done hAB]; have := hI.done hAB; rw [this, val_fl, Nat.mod_eq_of_lt]; exact plus_lt hdA hdB hAB
        refine pwx_sr 0 [] (by rfl) fun _ K18 => ?_; refine rgnX_take 2 fun _ K19 => ?_; simp (disch := omega) only [go_sem, hsl, hv, List.replicate_zero, List.append_nil]; refine Or.inl ⟨_, c_swarfref01_trim _ (by first | assumption | exact fl_dig _ _) (by simp; omega), ?_⟩; refine K19 _ ?_; simp (disch := omega) only [go_sem, hsl, hv, List.replicate_zero, List.append_nil]; refine K18 _ ?_; clear K19 K18; refine pwp_ret ?_; refine ⟨Or.inr rfl, ?_⟩; simp (disch := omega) only [go_sem]
set_option maxHeartbeats 4000000 in
theorem c_swarfref01_minus (a : List Nat) (hda : Dig a) (hla : a.length ≤ 3000000) (b : List Nat) (hdb : Dig b) (hlb : b.length ≤ 3000000) (hba : val b ≤ val a) :
    Ret Tryz.prog 98 [.c (lC a), .c (lC b)] (.e (.c (lC (limbs (val a - val b))))) := by
  refine ret_of_body (md := {}) Tryz.func98 (by kernel_rfl) rfl ?_; simp only [Tryz.f98, go_sem, Nat.reduceAdd, Nat.reduceSub, List.reduceReplicate]; refine pwx_sr 0 [] (by rfl) fun _ K1 => ?_; simp (disch := omega) only [go_sem]; refine K1 _ ?_; clear K1; refine pwx_sr 1 [] (by rfl) fun _ K2 => ?_; simp (disch := omega) only [go_sem]; refine K2 _ ?_; clear K2; refine pwx_sr 0 [] (by rfl) fun _ K3 => ?_; simp (disch := omega) only [go_sem]; refine K3 _ ?_; clear K3; refine pwp_seq ?_; refine pwx_sr 0 [] (by rfl) fun _ K4 => ?_; simp (disch := omega) only [go_sem]; refine K4 _ ?_; clear K4; refine pwp_block ?_; refine pwp_loopF (true :: true :: false :: false :: false :: true :: true :: true :: false :: false :: false :: false :: false :: false :: false :: false :: false :: false :: false :: false :: false :: false :: false :: false :: false :: false :: false :: false :: false :: false :: false :: false :: false :: false :: false :: false :: false :: false :: false :: false :: false :: false :: false :: false :: false :: []) 1 (fun M s => ∃ i : Nat, ∃ out : List Nat, ∃ c : Nat, ∃ r : Nat, (i ≤ a.length) ∧ (i + r = a.length) ∧ (MinusI a b i out c) ∧ a.length - i = M ∧ s = { slots := .e (.c (lC a)) :: .e (.c (lC b)) :: .j :: .j :: .j :: .e (.c (.msl 0 0 a.length a.length 1)) :: .e (.c (.int .u32 (c : Int))) :: .e (.c (.int .i64 (i : Int))) :: .j :: .j :: .j :: .j :: .j :: .j :: .j :: .j :: .j :: .j :: .j :: .j :: .j :: .j :: .j :: .j :: .j :: .j :: .j :: .j :: .j :: .j :: .j :: .j :: .j :: .j :: .j :: .j :: .j :: .j :: .j :: .j :: .j :: .j :: .j :: .j :: .j :: [], st := [.live (u32s (out ++ List.replicate r 0))] }) (n := a.length - 0) rfl ?_ ?_ ?_
  · refine ⟨0, [], 0, a.length, ?_, ?_, ?_, rfl, ?_⟩
    · omega
    · omega
    · exact MinusI.zero a b
    · first | rfl | simp [St.cut, keep]
  · refine ⟨rfl, ?_, ?_⟩ <;> first | rfl | (simp [keep, PV.lt, PE.lt, PC.lt, Box.lt, ↓lC_lt]; done) | simp [keep, PV.lt, PE.lt, PC.lt, Box.lt, ↓lC_lt, ↓intC_lt, ↓ratC_lt, ↓u32s_lt]
  · rintro _ _ ⟨i, out, c, r, hi0, hr, hI, rfl, rfl⟩
    have hlen := hI.len; have hc := hI.car; have hx := dg_lt9 hda i; have hy := dg_lt9 hdb i; refine pwp_seq ?_; refine pwx_sr 0 [] (by rfl) fun _ K5 => ?_; simp (disch := omega) only [go_sem]; refine K5 _ ?_; clear K5; refine pwp_cond (b := _) (by rfl) (fun hb0 => ?_) (fun hb0 => ?_)
    · first | replace hb0 := of_decide_eq_true hb0 | skip
      refine pwp_skip ?_; refine n_then ?_; refine pwp_seq ?_; refine pwp_block ?_; refine pwx_sr 0 [] (by rfl) fun _ K6 => ?_; simp (disch := omega) only [go_sem]; refine K6 _ ?_; clear K6; refine pwp_seq ?_; refine pwx_sr 0 [] (by rfl) fun _ K7 => ?_; simp (disch := omega) only [go_sem]; refine K7 _ ?_; clear K7; refine pwp_cond (b := _) (by rfl) (fun hb1 => ?_) (fun hb1 => ?_)
      · first | replace hb1 := of_decide_eq_true hb1 | skip
        refine pwx_region 0 [] (by rfl) fun _ K8 => ?_; simp (disch := omega) only [go_sem]; refine K8 _ ?_; clear K8; refine n_then ?_; refine pwx_sr 0 [] (by rfl) fun _ K9 => ?_; simp (disch := omega) only [go_sem]; refine K9 _ ?_; clear K9; refine pwp_seq ?_; refine pwx_sr 0 [] (by rfl) fun _ K10 => ?_; simp (disch := omega) only [go_sem]; refine K10 _ ?_; clear K10; refine pwp_cond (b := _) (by rfl) (fun hb2 => ?_) (fun hb2 => ?_)
        · first | replace hb2 := of_decide_eq_true hb2 | skip
          refine pwx_region 0 [] (by rfl) fun _ K11 => ?_; simp (disch := omega) only [go_sem]; refine K11 _ ?_; clear K11; refine n_then ?_; refine pwx_region 0 [] (by rfl) fun _ K12 => ?_; simp (disch := omega) only [go_sem]; refine K12 _ ?_; clear K12; refine n_block ?_; refine n_then ?_; refine pwx_region 0 [] (by rfl) fun _ K13 => ?_; simp (disch := omega) only [go_sem]; refine K13 _ ?_; clear K13; refine n_then ?_; refine ⟨_, ?hdec, ⟨i + 1, out ++ [dg a i + 1000000000 - c - dg b i - 1000000000], 0, r - 1, ?hf0, ?hf1, ?hf2, rfl, ?heq⟩, ?hok⟩
          case heq => first | rfl | simp [St.cut, keep]
          case hf0 => omega
          case hf1 => omega
          case hf2 => exact hI.lo hda (by omega)
          case hdec => omega
          case hok => refine ⟨rfl, ?_, ?_⟩ <;> first | rfl | (simp [keep, PV.lt, PE.lt, PC.lt, Box.lt, ↓lC_lt]; done) | simp [keep, PV.lt, PE.lt, PC.lt, Box.lt, ↓lC_lt, ↓intC_lt, ↓ratC_lt, ↓u32s_lt]
        · first | replace hb2 := of_decide_eq_false hb2 | skip
          refine pwp_skip ?_; refine n_then ?_; refine pwx_region 0 [] (by rfl) fun _ K14 => ?_; simp (disch := omega) only [go_sem]; refine K14 _ ?_; clear K14; refine n_block ?_; refine n_then ?_; refine pwx_region 0 [] (by rfl) fun _ K15 => ?_; simp (disch := omega) only [go_sem]; refine K15 _ ?_; clear K15; refine n_then ?_; refine ⟨_, ?hdec, ⟨i + 1, out ++ [dg a i + 1000000000 - c - dg b i], 1, r - 1, ?hf0, ?hf1, ?hf2, rfl, ?heq⟩, ?hok⟩
          case heq => first | rfl | simp [St.cut, keep]
          case hf0 => omega
          case hf1 => omega
          case hf2 => exact hI.hi9 hdb (by omega) (by omega)
          case hdec => omega
          case hok => refine ⟨rfl, ?_, ?_⟩ <;> first | rfl | (simp [keep, PV.lt, PE.lt, PC.lt, Box.lt, ↓lC_lt]; done) | simp [keep, PV.lt, PE.lt, PC.lt, Box.lt, ↓lC_lt, ↓intC_lt, ↓ratC_lt, ↓u32s_lt]
      · first | replace hb1 := of_decide_eq_false hb1 | skip
        refine pwp_skip ?_; refine n_then ?_; refine pwx_sr 0 [] (by rfl) fun _ K16 => ?_; simp (disch := omega) only [go_sem]; refine K16 _ ?_; clear K16; refine pwp_seq ?_; refine pwx_sr 0 [] (by rfl) fun _ K17 => ?_; simp (disch := omega) only [go_sem]; refine K17 _ ?_; clear K17; refine pwp_cond (b := _) (by rfl) (fun hb3 => ?_) (fun hb3 => ?_)
        · first | replace hb3 := of_decide_eq_true hb3 | skip
          refine pwx_region 0 [] (by rfl) fun _ K18 => ?_; simp (disch := omega) only [go_sem]; refine K18 _ ?_; clear K18; refine n_then ?_; refine pwx_region 0 [] (by rfl) fun _ K19 => ?_; simp (disch := omega) only [go_sem]; refine K19 _ ?_; clear K19; refine n_block ?_; refine n_then ?_; refine pwx_region 0 [] (by rfl) fun _ K20 => ?_; simp (disch := omega) only [go_sem]; refine K20 _ ?_; clear K20; refine n_then ?_; have hz := dg_out (l := b) (i := i) (by omega); refine ⟨_, ?hdec, ⟨i + 1, out ++ [dg a i + 1000000000 - c - 1000000000], 0, r - 1, ?hf0, ?hf1, ?hf2, rfl, ?heq⟩, ?hok⟩
          case heq => first | rfl | simp [St.cut, keep]
          case hf0 => omega
          case hf1 => omega
          case hf2 => exact hI.lo hda (by omega)
          case hdec => omega
          case hok => refine ⟨rfl, ?_, ?_⟩ <;> first | rfl | (simp [keep, PV.lt, PE.lt, PC.lt, Box.lt, ↓lC_lt]; done) | simp [keep, PV.lt, PE.lt, PC.lt, Box.lt, ↓lC_lt, ↓intC_lt, ↓ratC_lt, ↓u32s_lt]
        · first | replace hb3 := of_decide_eq_false hb3 | skip
          refine pwp_skip ?_; refine n_then ?_; refine pwx_region 0 [] (by rfl) fun _ K21 => ?_; simp (disch := omega) only [go_sem]; refine K21 _ ?_; clear K21; refine n_block ?_; refine n_then ?_; refine pwx_region 0 [] (by rfl) fun _ K22 => ?_; simp (disch := omega) only [go_sem]; refine K22 _ ?_; clear K22; refine n_then ?_; have hz := dg_out (l := b) (i := i) (by omega); refine ⟨_, ?hdec, ⟨i + 1, out ++ [dg a i + 1000000000 - c], 1, r - 1, ?hf0, ?hf1, ?hf2, rfl, ?heq⟩, ?hok⟩
          case heq => first | rfl | simp [St.cut, keep]
          case hf0 => omega
          case hf1 => omega
          case hf2 => exact hI.hi9 hdb (by omega) (by omega)
          case hdec => omega
          case hok => refine ⟨rfl, ?_, ?_⟩ <;> first | rfl | (simp [keep, PV.lt, PE.lt, PC.lt, Box.lt, ↓lC_lt]; done) | simp [keep, PV.lt, PE.lt, PC.lt, Box.lt, ↓lC_lt, ↓intC_lt, ↓ratC_lt, ↓u32s_lt]
    · replace hb0 := of_decide_eq_false hb0
      obtain rfl : i = a.length := by omega
      refine pwp_exit ?_; refine e_then ?_; refine e_then ?_; refine e_here ?_; refine n_then ?_
      obtain rfl : r = 0 := by omega
      have hsl : PC.sl a.length (u32s (List.take a.length out)) = lC (fl a.length (val a - val b)) := by rw [List.take_of_length_le (by omega), hI.done hda hdb hba, sl_u32s (by simp)]
      have hv : val (fl a.length (val a - val b)) = val a - val b := by rw [val_fl, Nat.mod_eq_of_lt]; have := val_lt hda; omega
      refine pwx_sr 0 [] (by rfl) fun _ K23 => ?_; refine rgnX_take 2 fun _ K24 => ?_; simp (disch := omega) only [go_sem, hsl, hv, List.replicate_zero, List.append_nil]; refine Or.inl ⟨_, c_swarfref01_trim _ (by first | assumption | exact fl_dig _ _) (by simp; omega), ?_⟩; refine K24 _ ?_; simp (disch := omega) only [go_sem, hsl, hv, List.replicate_zero, List.append_nil]; refine K23 _ ?_; clear K24 K23; refine pwp_ret ?_; refine ⟨Or.inr rfl, ?_⟩; simp (disch := omega) only [go_sem]
set_option maxHeartbeats 4000000 in
theorem c_swarfref01_times (a : List Nat) (hda : Dig a) (hla : a.length ≤ 1500000) (b : List Nat) (hdb : Dig b) (hlb : b.length ≤ 1500000) :
    Ret Tryz.prog 91 [.c (lC a), .c (lC b)] (.e (.c (lC (limbs (val a * val b))))) := by
  refine ret_of_body (md := {}) Tryz.func91 (by kernel_rfl) rfl ?_; simp only [Tryz.f91, go_sem, Nat.reduceAdd, Nat.reduceSub, List.reduceReplicate]; refine pwx_sr 0 [] (by rfl) fun _ K1 => ?_; simp (disch := omega) only [go_sem]; refine K1 _ ?_; clear K1; refine pwx_sr 1 [] (by rfl) fun _ K2 => ?_; simp (disch := omega) only [go_sem]; refine K2 _ ?_; clear K2; refine pwp_seq ?_; refine pwx_sr 0 [] (by rfl) fun _ K3 => ?_; simp (disch := omega) only [go_sem]; refine K3 _ ?_; clear K3; refine pwp_block ?_; refine pwp_loopF (true :: true :: false :: false :: false :: true :: true :: false :: false :: false :: false :: false :: false :: false :: false :: false :: false :: false :: false :: false :: false :: false :: false :: false :: false :: false :: false :: false :: false :: false :: false :: false :: false :: false :: false :: false :: false :: false :: false :: false :: false :: false :: false :: false :: false :: false :: false :: false :: false :: false :: false :: false :: false :: false :: false :: false :: false :: false :: false :: false :: false :: false :: false :: false :: false :: false :: false :: false :: []) 1 (fun M s => ∃ i : Nat, ∃ out : List Nat, (i ≤ a.length) ∧ (TimesO a b i out) ∧ a.length - i = M ∧ s = { slots := .e (.c (lC a)) :: .e (.c (lC b)) :: .j :: .j :: .j :: .e (.c (.msl 0 0 (a.length + b.length) (a.length + b.length) 1)) :: .e (.c (.int .i64 (i : Int))) :: .j :: .j :: .j :: .j :: .j :: .j :: .j :: .j :: .j :: .j :: .j :: .j :: .j :: .j :: .j :: .j :: .j :: .j :: .j :: .j :: .j :: .j :: .j :: .j :: .j :: .j :: .j :: .j :: .j :: .j :: .j :: .j :: .j :: .j :: .j :: .j :: .j :: .j :: .j :: .j :: .j :: .j :: .j :: .j :: .j :: .j :: .j :: .j :: .j :: .j :: .j :: .j :: .j :: .j :: .j :: .j :: .j :: .j :: .j :: .j :: .j :: [], st := [.live (u32s out)] }) (n := a.length - 0) rfl ?_ ?_ ?_
  · refine ⟨0, List.replicate (a.length + b.length) 0, ?_, ?_, rfl, ?_⟩
    · omega
    · exact TimesO.zero a b
    · first | rfl | simp [St.cut, keep]
  · refine ⟨rfl, ?_, ?_⟩ <;> first | rfl | (simp [keep, PV.lt, PE.lt, PC.lt, Box.lt, ↓lC_lt]; done) | simp [keep, PV.lt, PE.lt, PC.lt, Box.lt, ↓lC_lt, ↓intC_lt, ↓ratC_lt, ↓u32s_lt]
  · rintro _ _ ⟨i, out, hi, hO, rfl, rfl⟩
    have hlo := hO.len; refine pwp_seq ?_; refine pwx_sr 0 [] (by rfl) fun _ K4 => ?_; simp (disch := omega) only [go_sem]; refine K4 _ ?_; clear K4; refine pwp_cond (b := _) (by rfl) (fun hb0 => ?_) (fun hb0 => ?_)
    · first | replace hb0 := of_decide_eq_true hb0 | skip
      refine pwp_skip ?_; refine n_then ?_; refine pwp_seq ?_; refine pwp_block ?_; refine pwx_sr 0 [] (by rfl) fun _ K5 => ?_; simp (disch := omega) only [go_sem]; refine K5 _ ?_; clear K5; refine pwp_seq ?_; refine pwx_sr 0 [] (by rfl) fun _ K6 => ?_; simp (disch := omega) only [go_sem]; refine K6 _ ?_; clear K6; refine pwp_block ?_; refine pwp_loopF (true :: true :: false :: false :: false :: true :: true :: true :: true :: false :: false :: false :: false :: false :: false :: false :: false :: false :: false :: false :: false :: false :: false :: false :: false :: false :: false :: false :: false :: false :: false :: false :: false :: false :: false :: false :: false :: false :: false :: false :: false :: false :: false :: false :: false :: false :: false :: false :: false :: false :: false :: false :: false :: false :: false :: false :: false :: false :: false :: false :: false :: false :: false :: false :: false :: false :: false :: false :: []) 1 (fun M s => ∃ k : Nat, ∃ out' : List Nat, ∃ c : Nat, (k ≤ b.length) ∧ (TimesI a b i k out' c) ∧ b.length - k = M ∧ s = { slots := .e (.c (lC a)) :: .e (.c (lC b)) :: .j :: .j :: .j :: .e (.c (.msl 0 0 (a.length + b.length) (a.length + b.length) 1)) :: .e (.c (.int .i64 (i : Int))) :: .e (.c (.int .u64 (c : Int))) :: .e (.c (.int .i64 (k : Int))) :: .j :: .j :: .j :: .j :: .j :: .j :: .j :: .j :: .j :: .j :: .j :: .j :: .j :: .j :: .j :: .j :: .j :: .j :: .j :: .j :: .j :: .j :: .j :: .j :: .j :: .j :: .j :: .j :: .j :: .j :: .j :: .j :: .j :: .j :: .j :: .j :: .j :: .j :: .j :: .j :: .j :: .j :: .j :: .j :: .j :: .j :: .j :: .j :: .j :: .j :: .j :: .j :: .j :: .j :: .j :: .j :: .j :: .j :: .j :: [], st := [.live (u32s out')] }) (n := b.length - 0) rfl ?_ ?_ ?_
      · refine ⟨0, out, 0, ?_, ?_, rfl, ?_⟩
        · omega
        · exact hO.inner hda hdb
        · first | rfl | simp [St.cut, keep]
      · refine ⟨rfl, ?_, ?_⟩ <;> first | rfl | (simp [keep, PV.lt, PE.lt, PC.lt, Box.lt, ↓lC_lt]; done) | simp [keep, PV.lt, PE.lt, PC.lt, Box.lt, ↓lC_lt, ↓intC_lt, ↓ratC_lt, ↓u32s_lt]
      · rintro _ _ ⟨k, out', c, hk, hI, rfl, rfl⟩
        have hlen := hI.len; have hc : c < 1000000000 := hI.car; have hx := dg_lt9 hda i; have hy := dg_lt9 hdb k; have hz := dg_lt9 hI.dig (i + k); have hbd0 : dg out' (i + k) + dg a i * dg b k + c < 1000000000000000000 := hI.bound hda hdb
        have hte : c + dg out' (i + k) + dg a i * dg b k = dg out' (i + k) + dg a i * dg b k + c := by omega
        have hbd : c + dg out' (i + k) + dg a i * dg b k < 1000000000000000000 := by omega
        have ht0 : (c + dg out' (i + k) + dg a i * dg b k) / 1000000000 < 1000000000 := Nat.div_lt_of_lt_mul (by omega); have ht1 := Nat.mod_lt (c + dg out' (i + k) + dg a i * dg b k) (show 0 < 1000000000 by omega); refine pwp_seq ?_; refine pwx_sr 0 [] (by rfl) fun _ K7 => ?_; simp (disch := omega) only [go_sem]; refine K7 _ ?_; clear K7; refine pwp_cond (b := _) (by rfl) (fun hb1 => ?_) (fun hb1 => ?_)
        · first | replace hb1 := of_decide_eq_true hb1 | skip
          refine pwp_skip ?_; refine n_then ?_; refine pwp_seq ?_; refine pwp_block ?_; refine pwx_sd Tryz.mixed 0 [] (by rfl) [] (by kernel_rfl) (by simp) fun _ K8 => ?_; simp (disch := omega) only [go_sem]; refine K8 _ ?_; clear K8; refine pwx_sr 0 [] (by rfl) fun _ K9 => ?_; simp (disch := omega) only [go_sem]; refine K9 _ ?_; clear K9; refine pwx_region 0 [] (by rfl) fun _ K10 => ?_; simp (disch := omega) only [go_sem]; refine K10 _ ?_; clear K10; refine n_block ?_; refine n_then ?_; refine pwx_region 0 [] (by rfl) fun _ K11 => ?_; simp (disch := omega) only [go_sem]; refine K11 _ ?_; clear K11; refine n_then ?_; refine ⟨_, ?hdec, ⟨k + 1, out'.set (i + k) ((c + dg out' (i + k) + dg a i * dg b k) % 1000000000), (c + dg out' (i + k) + dg a i * dg b k) / 1000000000, ?hf0, ?hf1, rfl, ?heq⟩, ?hok⟩
          case heq => first | rfl | simp [St.cut, keep]
          case hf0 => omega
          case hf1 => exact hI.step hda hdb (by omega) (by omega) hte
          case hdec => omega
          case hok => refine ⟨rfl, ?_, ?_⟩ <;> first | rfl | (simp [keep, PV.lt, PE.lt, PC.lt, Box.lt, ↓lC_lt]; done) | simp [keep, PV.lt, PE.lt, PC.lt, Box.lt, ↓lC_lt, ↓intC_lt, ↓ratC_lt, ↓u32s_lt]
        · first | replace hb1 := of_decide_eq_false hb1 | skip
          refine pwp_exit ?_; refine e_then ?_; refine e_then ?_; refine e_here ?_; refine n_then ?_; refine pwx_region 0 [] (by rfl) fun _ K12 => ?_; simp (disch := omega) only [go_sem]; refine K12 _ ?_; clear K12; refine n_block ?_; refine n_then ?_; refine pwx_region 0 [] (by rfl) fun _ K13 => ?_; simp (disch := omega) only [go_sem]; refine K13 _ ?_; clear K13; refine n_then ?_
          have hk2 : k = b.length := by omega
          refine ⟨_, ?hdec, ⟨i + 1, out'.set (i + b.length) c, ?hf0, ?hf1, rfl, ?heq⟩, ?hok⟩
          case heq => first | rfl | simp [St.cut, keep]
          case hf0 => omega
          case hf1 => exact TimesI.close (hk2 ▸ hI) (by omega)
          case hdec => omega
          case hok => refine ⟨rfl, ?_, ?_⟩ <;> first | rfl | (simp [keep, PV.lt, PE.lt, PC.lt, Box.lt, ↓lC_lt]; done) | simp [keep, PV.lt, PE.lt, PC.lt, Box.lt, ↓lC_lt, ↓intC_lt, ↓ratC_lt, ↓u32s_lt]
    · replace hb0 := of_decide_eq_false hb0
      obtain rfl : i = a.length := by omega
      refine pwp_exit ?_; refine e_then ?_; refine e_then ?_; refine e_here ?_; refine n_then ?_
      have hsl : PC.sl (a.length + b.length) (u32s (List.take (a.length + b.length) out)) = lC (fl (a.length + b.length) (val a * val b)) := by rw [List.take_of_length_le (by omega), hO.done, sl_u32s (by simp)]
      have hv : val (fl (a.length + b.length) (val a * val b)) = val a * val b := by rw [val_fl, Nat.mod_eq_of_lt]; rw [Nat.pow_add]; exact Nat.mul_lt_mul'' (val_lt hda) (val_lt hdb)
      refine pwx_sr 0 [] (by rfl) fun _ K14 => ?_; refine rgnX_take 2 fun _ K15 => ?_; simp (disch := omega) only [go_sem, hsl, hv]; refine Or.inl ⟨_, c_swarfref01_trim _ (by first | assumption | exact fl_dig _ _) (by simp; omega), ?_⟩; refine K15 _ ?_; simp (disch := omega) only [go_sem, hsl, hv]; refine K14 _ ?_; clear K15 K14; refine pwp_ret ?_; refine ⟨Or.inr rfl, ?_⟩; simp (disch := omega) only [go_sem]

end Go.Proofs.YtdojhoegildiaaaGreat

set_option linter.unusedSimpArgs false
set_option linter.unusedVariables false
set_option maxRecDepth 20000
namespace Go.Proofs.YtdojhoegildiaaaGreat
open Go Go.PL
set_option maxHeartbeats 4000000 in
theorem c_swarfref01_limbs (u : Nat) (hu : u < 18446744073709551616) :
    Ret Tryz.prog 110 [.c (.int .u64 (u : Int))] (.e (.c (lC (limbs u)))) := by
  refine ret_of_body (md := { mb := true }) Tryz.func110 (by kernel_rfl) rfl ?_; simp only [Tryz.f110, go_sem, Nat.reduceAdd, Nat.reduceSub, List.reduceReplicate]; refine pwx_sr 0 [] (by rfl) fun _ K1 => ?_; simp (disch := omega) only [go_sem]; refine K1 _ ?_; clear K1; refine pwx_sr 0 [] (by rfl) fun _ K2 => ?_; simp (disch := omega) only [go_sem]; refine K2 _ ?_; clear K2; refine pwp_seq ?_; refine pwp_block ?_; refine pwp_loopF (true :: false :: false :: true :: false :: false :: false :: false :: false :: false :: false :: false :: false :: false :: false :: []) 1 (fun M s => ∃ w : Nat, ∃ out : List Nat, ∃ v3 : PC, ∃ σ : List Box, (w < 18446744073709551616) ∧ (limbs u = out ++ limbs w) ∧ (Grow out v3 σ) ∧ w = M ∧ s = { slots := .e (.c (.int .u64 (w : Int))) :: .j :: .j :: .e (.c (v3)) :: .j :: .j :: .j :: .j :: .j :: .j :: .j :: .j :: .j :: .j :: .j :: [], st := σ }) (n := u) rfl ?_ ?_ ?_
  · refine ⟨u, [], .nils, [], ?_, ?_, ?_, rfl, ?_⟩
    · exact hu
    · rfl
    · exact Grow.start
    · first | rfl | simp [St.cut, keep]
  · refine ⟨rfl, ?_, ?_⟩ <;> first | rfl | (simp [keep, PV.lt, PE.lt, PC.lt, Box.lt, ↓lC_lt]; done) | simp [keep, PV.lt, PE.lt, PC.lt, Box.lt, ↓lC_lt, ↓intC_lt, ↓ratC_lt, ↓u32s_lt]
  · rintro _ _ ⟨w, out, v3, σ, hw, hl, hG, rfl, rfl⟩
    have hol : out.length ≤ 3 := by have h3 := limbs_len (k := 3) (n := u) (Nat.lt_trans hu (by decide)); rw [hl] at h3; simp at h3; omega
    refine pwp_seq ?_; refine pwx_sr 0 [] (by rfl) fun _ K3 => ?_; simp (disch := omega) only [go_sem]; refine K3 _ ?_; clear K3; refine pwp_cond (b := _) (by rfl) (fun hb0 => ?_) (fun hb0 => ?_)
    · first | replace hb0 := of_decide_eq_true hb0 | skip
      refine pwp_skip ?_; refine n_then ?_; refine pwp_block ?_
      rcases hG.cases3 with ⟨rfl, rfl, rfl⟩ | ⟨cap, rfl, hcap, hc, rfl⟩ | ⟨cap, rfl, hcap, hc, rfl⟩
      · refine pwx_sr 2 [] (by rfl) fun _ K4 => ?_; simp (disch := omega) only [go_sem, le_F, u32s_cons, u32s_append]; intro c hc1; refine K4 _ ?_; clear K4; refine pwp_swap 0 1 rfl (by simp) (by simp) ?_; simp only [St.swap, swapL, sw, PV.ren, PE.ren, PC.ren, Box.ren, u32s_ren, intC_ren, ratC_ren, lC_ren, List.getD_cons_zero, List.getD_cons_succ, List.set_cons_zero, List.set_cons_succ, List.map_cons, List.map_nil, reduceIte, Nat.reduceEqDiff, Nat.zero_ne_one, Nat.one_ne_zero, go_sem_proc]; refine pwx_region 0 [] (by rfl) fun _ K5 => ?_; simp (disch := omega) only [go_sem]; refine K5 _ ?_; clear K5; refine n_block ?_; refine n_then ?_; refine ⟨_, ?hdec, ⟨w / 1000000000, [] ++ [w % 1000000000], ?w2_2, ?w2_3, ?hf0, ?hf1, ?hf2, rfl, ?heq⟩, ?hok⟩
        case heq => first | rfl | simp [St.cut, keep]
        case hf0 => omega
        case hf1 => exact limbs_step hl (by omega)
        case hf2 => exact Grow.nextN hc1
        case hdec => omega
        case hok => refine ⟨rfl, ?_, ?_⟩ <;> first | rfl | (simp [keep, PV.lt, PE.lt, PC.lt, Box.lt, ↓lC_lt]; done) | simp [keep, PV.lt, PE.lt, PC.lt, Box.lt, ↓lC_lt, ↓intC_lt, ↓ratC_lt, ↓u32s_lt]
      · refine pwx_sr 2 [] (by rfl) fun _ K6 => ?_; simp (disch := omega) only [go_sem, le_F, u32s_cons, u32s_append]; refine K6 _ ?_; clear K6; skip; refine pwx_region 0 [] (by rfl) fun _ K7 => ?_; simp (disch := omega) only [go_sem]; refine K7 _ ?_; clear K7; refine n_block ?_; refine n_then ?_; refine ⟨_, ?hdec, ⟨w / 1000000000, out ++ [w % 1000000000], ?w3_2, ?w3_3, ?hf0, ?hf1, ?hf2, rfl, ?heq⟩, ?hok⟩
        case heq => first | rfl | simp [St.cut, keep]
        case hf0 => omega
        case hf1 => exact limbs_step hl (by omega)
        case hf2 => exact Grow.nextI hc
        case hdec => omega
        case hok => refine ⟨rfl, ?_, ?_⟩ <;> first | rfl | (simp [keep, PV.lt, PE.lt, PC.lt, Box.lt, ↓lC_lt]; done) | simp [keep, PV.lt, PE.lt, PC.lt, Box.lt, ↓lC_lt, ↓intC_lt, ↓ratC_lt, ↓u32s_lt]
      · refine pwx_sr 2 [] (by rfl) fun _ K8 => ?_; simp (disch := omega) only [go_sem, le_F, u32s_cons, u32s_append]; intro c hc1; refine K8 _ ?_; clear K8; refine pwp_swap 0 2 rfl (by simp) (by simp) ?_; simp only [St.swap, swapL, sw, PV.ren, PE.ren, PC.ren, Box.ren, u32s_ren, intC_ren, ratC_ren, lC_ren, List.getD_cons_zero, List.getD_cons_succ, List.set_cons_zero, List.set_cons_succ, List.map_cons, List.map_nil, reduceIte, Nat.reduceEqDiff, Nat.zero_ne_one, Nat.one_ne_zero, go_sem_proc]; refine pwx_region 0 [] (by rfl) fun _ K9 => ?_; simp (disch := omega) only [go_sem]; refine K9 _ ?_; clear K9; refine n_block ?_; refine n_then ?_; refine ⟨_, ?hdec, ⟨w / 1000000000, out ++ [w % 1000000000], ?w4_2, ?w4_3, ?hf0, ?hf1, ?hf2, rfl, ?heq⟩, ?hok⟩
        case heq => first | rfl | simp [St.cut, keep]
        case hf0 => omega
        case hf1 => exact limbs_step hl (by omega)
        case hf2 => exact Grow.nextG hc1
        case hdec => omega
        case hok => refine ⟨rfl, ?_, ?_⟩ <;> first | rfl | (simp [keep, PV.lt, PE.lt, PC.lt, Box.lt, ↓lC_lt]; done) | simp [keep, PV.lt, PE.lt, PC.lt, Box.lt, ↓lC_lt, ↓intC_lt, ↓ratC_lt, ↓u32s_lt]
    · first | replace hb0 := of_decide_eq_false hb0 | skip
      refine pwp_exit ?_; refine e_then ?_; refine e_then ?_; refine e_here ?_; refine n_then ?_
      rcases hG with ⟨rfl, rfl, rfl⟩ | ⟨cap, rfl, hcap, rfl⟩
      · refine pwx_sr 0 [] (by rfl) fun _ K10 => ?_; simp (disch := omega) only [go_sem]; refine K10 _ ?_; clear K10; refine pwp_ret ?_; refine ⟨Or.inr rfl, ?_⟩; simp (disch := omega) only [go_sem]
        obtain rfl : w = 0 := by omega
        rw [hl, limbs_zero]; exact rfl
      · refine pwx_sr 0 [] (by rfl) fun _ K11 => ?_; simp (disch := omega) only [go_sem]; refine K11 _ ?_; clear K11; refine pwp_ret ?_; refine ⟨Or.inr rfl, ?_⟩; simp (disch := omega) only [go_sem]
        obtain rfl : w = 0 := by omega
        rw [hl, limbs_zero, List.append_nil, List.take_append_of_le_length (Nat.le_refl _), List.take_length, sl_u32s rfl]
set_option maxHeartbeats 4000000 in
theorem c_swarfref01_by (X s : Nat) (hX : (limbs X).length ≤ 1400000) (hs : s < 1000000000) :
    Ret Tryz.prog 134 [.c (lC (limbs X)), .c (.int .u32 (s : Int))] (.e (.c (lC (limbs (X * s))))) := by
  refine ret_of_body (md := {}) Tryz.func134 (by kernel_rfl) rfl ?_; simp only [Tryz.f134, go_sem, Nat.reduceAdd, Nat.reduceSub, List.reduceReplicate]; have hls : (limbs s).length ≤ 1 := limbs_len (k := 1) (by rw [Nat.pow_one]; exact hs); refine pwx_sr 0 [] (by rfl) fun _ K1 => ?_; simp (disch := omega) only [go_sem]; refine K1 _ ?_; clear K1; refine pwx_sr 1 [] (by rfl) fun _ K2 => ?_; refine rgnX_take 4 fun _ K3 => ?_; simp (disch := omega) only [go_sem, val_single]; refine ⟨_, c_swarfref01_trim [s] (Dig.cons hs Dig.nil) (by simp), ?_⟩; refine K3 _ ?_; refine rgnX_take 1 fun _ K4 => ?_; simp (disch := omega) only [go_sem, val_single]; refine ⟨_, c_swarfref01_times _ (limbs_dig _) (by omega) _ (limbs_dig _) (by omega), ?_⟩; refine K4 _ ?_; simp (disch := omega) only [go_sem, val_single]; refine K2 _ ?_; clear K4 K3 K2; refine pwp_ret ?_; refine ⟨Or.inr rfl, ?_⟩; simp (disch := omega) only [go_sem]
set_option maxHeartbeats 4000000 in
theorem c_swarfref01_short (X : Nat) (hX : X < 18446744073709551616) :
    Ret Tryz.prog 70 [.c (lC (limbs X))] (.e (.c (.int .u64 (X : Int)))) := by
  refine ret_of_body (md := {}) Tryz.func70 (by kernel_rfl) rfl ?_; simp only [Tryz.f70, go_sem, Nat.reduceAdd, Nat.reduceSub, List.reduceReplicate]; have hlX : (limbs X).length ≤ 3 := limbs_len (k := 3) (Nat.lt_trans hX (by decide)); refine pwx_sr 0 [] (by rfl) fun _ K1 => ?_; simp (disch := omega) only [go_sem]; refine K1 _ ?_; clear K1; refine pwx_sr 0 [] (by rfl) fun _ K2 => ?_; simp (disch := omega) only [go_sem]; refine K2 _ ?_; clear K2; refine pwp_seq ?_; refine pwx_sr 0 [] (by rfl) fun _ K3 => ?_; simp (disch := omega) only [go_sem]; refine K3 _ ?_; clear K3; refine pwp_block ?_; refine pwp_loopF (true :: false :: false :: true :: true :: false :: false :: false :: false :: false :: false :: false :: false :: false :: false :: false :: false :: false :: false :: false :: false :: []) 0 (fun M s => ∃ k : Nat, ∃ u : Nat, (k ≤ (limbs X).length) ∧ (u = vd (limbs X) k) ∧ k = M ∧ s = { slots := .e (.c (lC (limbs X))) :: .j :: .j :: .e (.c (.int .u64 (u : Int))) :: .e (.c (.int .i64 ((k : Int) - 1))) :: .j :: .j :: .j :: .j :: .j :: .j :: .j :: .j :: .j :: .j :: .j :: .j :: .j :: .j :: .j :: .j :: [], st := [] }) (n := (limbs X).length) rfl ?_ ?_ ?_
  · refine ⟨(limbs X).length, 0, ?_, ?_, rfl, ?_⟩
    · omega
    · rw [vd_all (Nat.le_refl _)]
    · first | rfl | simp [St.cut, keep]
  · refine ⟨rfl, ?_, ?_⟩ <;> first | rfl | (simp [keep, PV.lt, PE.lt, PC.lt, Box.lt, ↓lC_lt]; done) | simp [keep, PV.lt, PE.lt, PC.lt, Box.lt, ↓lC_lt, ↓intC_lt, ↓ratC_lt, ↓u32s_lt]
  · rintro _ _ ⟨k, u, hk, hu, rfl, rfl⟩
    refine pwp_seq ?_; refine pwx_sr 0 [] (by rfl) fun _ K4 => ?_; simp (disch := omega) only [go_sem]; refine K4 _ ?_; clear K4; refine pwp_cond (b := _) (by rfl) (fun hb0 => ?_) (fun hb0 => ?_)
    · replace hb0 := of_decide_eq_true hb0; obtain ⟨k, rfl⟩ : ∃ j, k = j + 1 := ⟨k - 1, by omega⟩; have hd := dg_lt9 (limbs_dig X) k; have hv := vd_step (l := limbs X) (k := k) (by omega); subst hu; have hw := vd_le (limbs X) k; rw [limbs_val, hv] at hw; refine pwp_skip ?_; refine n_then ?_; refine pwp_seq ?_; refine pwp_block ?_; refine pwx_region 0 [] (by rfl) fun _ K5 => ?_; simp (disch := omega) only [go_sem]; refine K5 _ ?_; clear K5; refine n_block ?_; refine n_then ?_; refine pwx_region 0 [] (by rfl) fun _ K6 => ?_; simp (disch := omega) only [go_sem]; refine K6 _ ?_; clear K6; refine n_then ?_; refine ⟨_, ?hdec, ⟨k, vd (limbs X) (k + 1) * 1000000000 + dg (limbs X) k, ?hf0, ?hf1, rfl, ?heq⟩, ?hok⟩
      case heq => first | rfl | simp [St.cut, keep]
      case hf0 => omega
      case hf1 => exact hv.symm
      case hdec => omega
      case hok => refine ⟨rfl, ?_, ?_⟩ <;> first | rfl | (simp [keep, PV.lt, PE.lt, PC.lt, Box.lt, ↓lC_lt]; done) | simp [keep, PV.lt, PE.lt, PC.lt, Box.lt, ↓lC_lt, ↓intC_lt, ↓ratC_lt, ↓u32s_lt]
    · replace hb0 := of_decide_eq_false hb0
      obtain rfl : k = 0 := by omega
      rw [vd_zero, limbs_val] at hu; subst hu; refine pwp_exit ?_; refine e_then ?_; refine e_then ?_; refine e_here ?_; refine n_then ?_; refine pwx_sr 0 [] (by rfl) fun _ K7 => ?_; simp (disch := omega) only [go_sem]; refine K7 _ ?_; clear K7; refine pwp_ret ?_; refine ⟨Or.inr rfl, ?_⟩; simp (disch := omega) only [go_sem]
set_option maxHeartbeats 4000000 in
theorem c_swarfref01_FromInt64 (n : Int) (h0 : -9223372036854775808 ≤ n) (h1 : n < 9223372036854775808) :
    Ret Tryz.prog 68 [.c (.int .i64 n)] (.e (.a (intC n))) := by
  refine ret_of_body (md := {}) Tryz.func68 (by kernel_rfl) rfl ?_; simp only [Tryz.f68, go_sem, Nat.reduceAdd, Nat.reduceSub, List.reduceReplicate]
  have hlm : ∀ m : Nat, m < 18446744073709551616 → (limbs m).length ≤ 3 := fun m hm => limbs_len (k := 3) (Nat.lt_trans hm (by decide))
  refine pwx_sr 1 [] (by rfl) fun _ K1 => ?_; simp (disch := omega) only [go_sem]; refine K1 _ ?_; clear K1; refine pwp_seq ?_; by_cases hn : n < 0
  · refine pwx_sr 0 [] (by rfl) fun _ K2 => ?_; simp (disch := omega) only [go_sem]; refine K2 _ ?_; clear K2; refine pwp_cond (b := true) (by rfl) (fun _ => ?_) (fun h => nomatch h); refine pwx_sr 0 [] (by rfl) fun _ K3 => ?_; refine rgnX_take 4 fun _ K4 => ?_; simp (disch := omega) only [go_sem, wu64_neg, wu64_ng, limbs_val]; refine ⟨_, c_swarfref01_limbs _ (by omega), ?_⟩; refine K4 _ ?_; refine rgnX_take 1 fun _ K5 => ?_; simp (disch := omega) only [go_sem, wu64_neg, wu64_ng, limbs_val]; refine ⟨_, c_swarfref01_signed _ _ (limbs_dig _) (Nat.le_trans (hlm _ (by omega)) (by omega)), ?_⟩; refine K5 _ ?_; simp (disch := omega) only [go_sem, wu64_neg, wu64_ng, limbs_val]; refine K3 _ ?_; clear K5 K4 K3; refine pwp_ret ?_; refine r_then ?_; refine ⟨Or.inr rfl, ?_⟩; simp (disch := omega) only [go_sem]; rw [show 18446744073709551616 - (18446744073709551616 - n.natAbs) = n.natAbs by omega, sg_natAbs_neg hn]
  · refine pwx_sr 0 [] (by rfl) fun _ K6 => ?_; simp (disch := omega) only [go_sem]; refine K6 _ ?_; clear K6; refine pwp_cond (b := false) (by rfl) (fun h => nomatch h) (fun _ => ?_); refine pwp_skip ?_; refine n_then ?_; refine pwx_sr 0 [] (by rfl) fun _ K7 => ?_; refine rgnX_take 3 fun _ K8 => ?_; simp (disch := omega) only [go_sem, wu64_pos, limbs_val]; refine ⟨_, c_swarfref01_limbs _ (by omega), ?_⟩; refine K8 _ ?_; refine rgnX_take 1 fun _ K9 => ?_; simp (disch := omega) only [go_sem, wu64_pos, limbs_val]; refine ⟨_, c_swarfref01_signed _ _ (limbs_dig _) (Nat.le_trans (hlm _ (by omega)) (by omega)), ?_⟩; refine K9 _ ?_; simp (disch := omega) only [go_sem, wu64_pos, limbs_val]; refine K7 _ ?_; clear K9 K8 K7; refine pwp_ret ?_; refine ⟨Or.inr rfl, ?_⟩; simp (disch := omega) only [go_sem]; rw [sg_natAbs_pos hn]
set_option maxHeartbeats 4000000 in
theorem c_swarfref01_Sign (x : Int) :
    Ret Tryz.prog 55 [.a (intC x)] (.e (.c (.int .i64 (sgnI x)))) := by
  refine ret_of_body (md := {}) Tryz.func55 (by kernel_rfl) rfl ?_; simp only [Tryz.f55, go_sem, Nat.reduceAdd, Nat.reduceSub, List.reduceReplicate]; refine pwx_sr 1 [] (by rfl) fun _ K1 => ?_; simp (disch := omega) only [go_sem]; refine K1 _ ?_; clear K1; refine pwp_seq ?_; refine pwx_sr 0 [] (by rfl) fun _ K2 => ?_; simp (disch := omega) only [go_sem]; refine K2 _ ?_; clear K2; refine pwp_cond (b := _) (by rfl) (fun hb0 => ?_) (fun hb0 => ?_)
  · first | replace hb0 := of_decide_eq_true hb0 | skip
    refine pwx_sr 0 [] (by rfl) fun _ K3 => ?_; simp (disch := omega) only [go_sem]; refine K3 _ ?_; clear K3; refine pwp_ret ?_; refine r_then ?_; refine ⟨Or.inr rfl, ?_⟩; simp (disch := omega) only [go_sem]; rw [sgn_z (by omega)]
  · first | replace hb0 := of_decide_eq_false hb0 | skip
    refine pwp_skip ?_; refine n_then ?_; refine pwp_seq ?_; refine pwx_sr 0 [] (by rfl) fun _ K4 => ?_; simp (disch := omega) only [go_sem]; refine K4 _ ?_; clear K4; refine pwp_cond (b := _) (by rfl) (fun hb1 => ?_) (fun hb1 => ?_)
    · first | replace hb1 := of_decide_eq_true hb1 | skip
      refine pwx_sr 0 [] (by rfl) fun _ K5 => ?_; simp (disch := omega) only [go_sem]; refine K5 _ ?_; clear K5; refine pwp_ret ?_; refine r_then ?_; refine ⟨Or.inr rfl, ?_⟩; simp (disch := omega) only [go_sem]; rw [sgn_n hb1]
    · first | replace hb1 := of_decide_eq_false hb1 | skip
      refine pwp_skip ?_; refine n_then ?_; refine pwx_sr 0 [] (by rfl) fun _ K6 => ?_; simp (disch := omega) only [go_sem]; refine K6 _ ?_; clear K6; refine pwp_ret ?_; refine ⟨Or.inr rfl, ?_⟩; simp (disch := omega) only [go_sem]; rw [sgn_p hb1 (by omega)]
set_option maxHeartbeats 4000000 in
theorem c_swarfref01_Cmp (x y : Int) (hx : (limbs x.natAbs).length ≤ 1000000) (hy : (limbs y.natAbs).length ≤ 1000000) :
    Ret Tryz.prog 69 [.a (intC x), .a (intC y)] (.e (.c (.int .i64 (cmpI x y)))) := by
  refine ret_of_body (md := {}) Tryz.func69 (by kernel_rfl) rfl ?_; simp only [Tryz.f69, go_sem, Nat.reduceAdd, Nat.reduceSub, List.reduceReplicate]; refine pwx_sr 2 [] (by rfl) fun _ K1 => ?_; simp (disch := omega) only [go_sem]; refine K1 _ ?_; clear K1; refine pwp_seq ?_; refine pwx_sr 0 [] (by rfl) fun _ K2 => ?_; simp (disch := omega) only [go_sem]; refine K2 _ ?_; clear K2; refine pwp_cond (b := _) (by rfl) (fun hb0 => ?_) (fun hb0 => ?_)
  · first | replace hb0 := of_decide_eq_true hb0 | skip
    refine pwp_seq ?_; refine pwx_sr 0 [] (by rfl) fun _ K3 => ?_; simp (disch := omega) only [go_sem]; refine K3 _ ?_; clear K3; refine pwp_cond (b := _) (by rfl) (fun hb1 => ?_) (fun hb1 => ?_)
    · first | replace hb1 := of_decide_eq_true hb1 | skip
      refine pwx_sr 0 [] (by rfl) fun _ K4 => ?_; simp (disch := omega) only [go_sem]; refine K4 _ ?_; clear K4; refine pwp_ret ?_; refine r_then ?_; refine r_then ?_; refine ⟨Or.inr rfl, ?_⟩; simp (disch := omega) only [go_sem]; rw [cmpI_np hb1 ((dec_ne hb0).1 hb1)]
    · first | replace hb1 := of_decide_eq_false hb1 | skip
      refine pwp_skip ?_; refine n_then ?_; refine pwx_sr 0 [] (by rfl) fun _ K5 => ?_; simp (disch := omega) only [go_sem]; refine K5 _ ?_; clear K5; refine pwp_ret ?_; refine r_then ?_; refine ⟨Or.inr rfl, ?_⟩; simp (disch := omega) only [go_sem]; rw [cmpI_pn hb1 (Classical.not_not.1 fun h => hb1 ((dec_ne hb0).2 h))]
  · first | replace hb0 := of_decide_eq_false hb0 | skip
    refine pwp_skip ?_; refine n_then ?_; refine pwp_seq ?_; refine pwx_sr 0 [] (by rfl) fun _ K6 => ?_; simp (disch := omega) only [go_sem]; refine K6 _ ?_; clear K6; refine pwp_cond (b := _) (by rfl) (fun hb2 => ?_) (fun hb2 => ?_)
    · first | replace hb2 := of_decide_eq_true hb2 | skip
      refine pwx_sr 0 [] (by rfl) fun _ K7 => ?_; refine rgnX_take 5 fun _ K8 => ?_; simp (disch := omega) only [go_sem]; refine ⟨_, c_swarfref01_compare _ _ (by omega) (by omega), ?_⟩; refine K8 _ ?_; simp (disch := omega) only [go_sem]; refine K7 _ ?_; clear K8 K7; refine pwp_ret ?_; refine r_then ?_; refine ⟨Or.inr rfl, ?_⟩; simp (disch := omega) only [go_sem]; rw [cmpI_pp hb2 ((dec_eq hb0).1 hb2)]
    · first | replace hb2 := of_decide_eq_false hb2 | skip
      refine pwp_skip ?_; refine n_then ?_; refine pwx_sr 0 [] (by rfl) fun _ K9 => ?_; refine rgnX_take 5 fun _ K10 => ?_; simp (disch := omega) only [go_sem]; refine ⟨_, c_swarfref01_compare _ _ (by omega) (by omega), ?_⟩; refine K10 _ ?_; simp (disch := omega) only [go_sem]; refine K9 _ ?_; clear K10 K9; refine pwp_ret ?_; refine ⟨Or.inr rfl, ?_⟩; simp (disch := omega) only [go_sem]; rw [cmpI_nn hb2 fun h => hb2 ((dec_eq hb0).2 h)]
set_option maxHeartbeats 4000000 in
theorem c_swarfref01_Neg (x : Int) (hx : (limbs x.natAbs).length ≤ 1000000) :
    Ret Tryz.prog 49 [.a (intC x)] (.e (.a (intC (-x)))) := by
  refine ret_of_body (md := {}) Tryz.func49 (by kernel_rfl) rfl ?_; simp only [Tryz.f49, go_sem, Nat.reduceAdd, Nat.reduceSub, List.reduceReplicate]; refine pwx_sr 2 [] (by rfl) fun _ K1 => ?_; simp (disch := omega) only [go_sem]; refine K1 _ ?_; clear K1; refine pwx_sr 0 [] (by rfl) fun _ K2 => ?_; refine rgnX_take 6 fun _ K3 => ?_; simp (disch := omega) only [go_sem]; refine ⟨_, c_swarfref01_signed _ _ (limbs_dig _) (by omega), ?_⟩; refine K3 _ ?_; simp (disch := omega) only [go_sem]; refine K2 _ ?_; clear K3 K2; refine pwp_ret ?_; refine ⟨Or.inr rfl, ?_⟩; simp (disch := omega) only [go_sem]; rw [sg_neg]
set_option maxHeartbeats 4000000 in
theorem c_swarfref01_Add (x y : Int) (hx : (limbs x.natAbs).length ≤ 1000000) (hy : (limbs y.natAbs).length ≤ 1000000) :
    Ret Tryz.prog 54 [.a (intC x), .a (intC y)] (.e (.a (intC (x + y)))) := by
  refine ret_of_body (md := {}) Tryz.func54 (by kernel_rfl) rfl ?_; simp only [Tryz.f54, go_sem, Nat.reduceAdd, Nat.reduceSub, List.reduceReplicate]; have hlp := limbs_plus_len x.natAbs y.natAbs; have hl1 := limbs_len_mono (Nat.sub_le x.natAbs y.natAbs); have hl2 := limbs_len_mono (Nat.sub_le y.natAbs x.natAbs); have hlt := limbs_mul_len x.natAbs y.natAbs; refine pwx_sr 3 [] (by rfl) fun _ K1 => ?_; simp (disch := omega) only [go_sem]; refine K1 _ ?_; clear K1; refine pwp_seq ?_; refine pwx_sr 0 [] (by rfl) fun _ K2 => ?_; simp (disch := omega) only [go_sem]; refine K2 _ ?_; clear K2; refine pwp_cond (b := _) (by rfl) (fun hb0 => ?_) (fun hb0 => ?_)
  · first | replace hb0 := of_decide_eq_true hb0 | skip
    refine pwx_sd Tryz.mixed 0 [] (by rfl) [] (by kernel_rfl) (by simp) fun _ K3 => ?_; refine rgnX_take 7 fun _ K4 => ?_; simp (disch := omega) only [go_sem]; refine ⟨_, c_swarfref01_plus _ (limbs_dig _) (by omega) _ (limbs_dig _) (by omega), ?_⟩; refine K4 _ ?_; refine rgnX_take 1 fun _ K5 => ?_; simp (disch := omega) only [go_sem]; refine ⟨_, c_swarfref01_signed _ _ (limbs_dig _) (by omega), ?_⟩; refine K5 _ ?_; simp (disch := omega) only [go_sem]; refine K3 _ ?_; clear K5 K4 K3; refine pwp_ret ?_; refine r_then ?_; refine ⟨Or.inr rfl, ?_⟩; simp (disch := omega) only [go_sem]; rw [sg_add (decide_eq_decide.1 hb0)]
  · first | replace hb0 := of_decide_eq_false hb0 | skip
    refine pwp_skip ?_; refine n_then ?_; refine pwp_seq ?_; refine pwx_sr 0 [] (by rfl) fun _ K6 => ?_; refine rgnX_take 5 fun _ K7 => ?_; simp (disch := omega) only [go_sem]; refine ⟨_, c_swarfref01_compare _ _ (by omega) (by omega), ?_⟩; refine K7 _ ?_; simp (disch := omega) only [go_sem]; refine K6 _ ?_; clear K7 K6; refine pwp_cond (b := _) (by rfl) (fun hb1 => ?_) (fun hb1 => ?_)
    · replace hb1 := cmpN_gez.1 (of_decide_eq_true hb1); refine pwx_sd Tryz.mixed 0 [] (by rfl) [] (by kernel_rfl) (by simp) fun _ K8 => ?_; refine rgnX_take 7 fun _ K9 => ?_; simp (disch := omega) only [go_sem]; refine ⟨_, c_swarfref01_minus _ (limbs_dig _) (by omega) _ (limbs_dig _) (by omega) (by simp only [limbs_val]; omega), ?_⟩; refine K9 _ ?_; refine rgnX_take 1 fun _ K10 => ?_; simp (disch := omega) only [go_sem]; refine ⟨_, c_swarfref01_signed _ _ (limbs_dig _) (by omega), ?_⟩; refine K10 _ ?_; simp (disch := omega) only [go_sem]; refine K8 _ ?_; clear K10 K9 K8; refine pwp_ret ?_; refine r_then ?_; refine ⟨Or.inr rfl, ?_⟩; simp (disch := omega) only [go_sem]; rw [sg_sub1 (dec_ne2 hb0) hb1]
    · replace hb1 := Nat.lt_of_not_le fun h => of_decide_eq_false hb1 (cmpN_gez.2 h)
      refine pwp_skip ?_; refine n_then ?_; refine pwx_sd Tryz.mixed 0 [] (by rfl) [] (by kernel_rfl) (by simp) fun _ K11 => ?_; refine rgnX_take 7 fun _ K12 => ?_; simp (disch := omega) only [go_sem]; refine ⟨_, c_swarfref01_minus _ (limbs_dig _) (by omega) _ (limbs_dig _) (by omega) (by simp only [limbs_val]; omega), ?_⟩; refine K12 _ ?_; refine rgnX_take 1 fun _ K13 => ?_; simp (disch := omega) only [go_sem]; refine ⟨_, c_swarfref01_signed _ _ (limbs_dig _) (by omega), ?_⟩; refine K13 _ ?_; simp (disch := omega) only [go_sem]; refine K11 _ ?_; clear K13 K12 K11; refine pwp_ret ?_; refine ⟨Or.inr rfl, ?_⟩; simp (disch := omega) only [go_sem]; rw [sg_sub1 (dec_ne3 hb0) (Nat.le_of_lt hb1), Int.add_comm]
set_option maxHeartbeats 4000000 in
theorem c_swarfref01_Sub (x y : Int) (hx : (limbs x.natAbs).length ≤ 1000000) (hy : (limbs y.natAbs).length ≤ 1000000) :
    Ret Tryz.prog 125 [.a (intC x), .a (intC y)] (.e (.a (intC (x - y)))) := by
  refine ret_of_body (md := {}) Tryz.func125 (by kernel_rfl) rfl ?_; simp only [Tryz.f125, go_sem, Nat.reduceAdd, Nat.reduceSub, List.reduceReplicate]; refine pwx_sr 3 [] (by rfl) fun _ K1 => ?_; simp (disch := omega) only [go_sem]; refine K1 _ ?_; clear K1; refine pwx_sd Tryz.mixed 0 [] (by rfl) [] (by kernel_rfl) (by simp) fun _ K2 => ?_; refine rgnX_take 3 fun _ K3 => ?_; simp (disch := omega) only [go_sem]; refine ⟨_, c_swarfref01_Neg _ (by omega), ?_⟩; refine K3 _ ?_; refine rgnX_take 1 fun _ K4 => ?_; simp (disch := omega) only [go_sem]; refine ⟨_, c_swarfref01_Add _ _ (by omega) (by simp only [Int.natAbs_neg]; omega), ?_⟩; refine K4 _ ?_; simp (disch := omega) only [go_sem]; refine K2 _ ?_; clear K4 K3 K2; refine pwp_ret ?_; refine ⟨Or.inr rfl, ?_⟩; simp (disch := omega) only [go_sem]; rw [← Int.sub_eq_add_neg]
set_option maxHeartbeats 4000000 in
theorem c_swarfref01_Mul (x y : Int) (hx : (limbs x.natAbs).length ≤ 1000000) (hy : (limbs y.natAbs).length ≤ 1000000) :
    Ret Tryz.prog 48 [.a (intC x), .a (intC y)] (.e (.a (intC (x * y)))) := by
  refine ret_of_body (md := {}) Tryz.func48 (by kernel_rfl) rfl ?_; simp only [Tryz.f48, go_sem, Nat.reduceAdd, Nat.reduceSub, List.reduceReplicate]; have hlp := limbs_plus_len x.natAbs y.natAbs; have hl1 := limbs_len_mono (Nat.sub_le x.natAbs y.natAbs); have hl2 := limbs_len_mono (Nat.sub_le y.natAbs x.natAbs); have hlt := limbs_mul_len x.natAbs y.natAbs; refine pwx_sr 3 [] (by rfl) fun _ K1 => ?_; simp (disch := omega) only [go_sem]; refine K1 _ ?_; clear K1; refine pwx_sd Tryz.mixed 0 [] (by rfl) [] (by kernel_rfl) (by simp) fun _ K2 => ?_; refine rgnX_take 10 fun _ K3 => ?_; simp (disch := omega) only [go_sem]; refine ⟨_, c_swarfref01_times _ (limbs_dig _) (by omega) _ (limbs_dig _) (by omega), ?_⟩; refine K3 _ ?_; refine rgnX_take 1 fun _ K4 => ?_; simp (disch := omega) only [go_sem]; refine ⟨_, c_swarfref01_signed _ _ (limbs_dig _) (by omega), ?_⟩; refine K4 _ ?_; simp (disch := omega) only [go_sem]; refine K2 _ ?_; clear K4 K3 K2; refine pwp_ret ?_; refine ⟨Or.inr rfl, ?_⟩; simp (disch := omega) only [go_sem]; exact congrArg intC (sg_mul x y).symm
set_option maxHeartbeats 4000000 in
theorem c_swarfref01_Same (x y : Int) (hx : (limbs x.natAbs).length ≤ 1000000) (hy : (limbs y.natAbs).length ≤ 1000000) :
    Ret Tryz.prog 63 [.a (intC x), .a (intC y)] (.e (.c (.bool (decide (x = y))))) := by
  refine ret_of_body (md := {}) Tryz.func63 (by kernel_rfl) rfl ?_; simp only [Tryz.f63, go_sem, Nat.reduceAdd, Nat.reduceSub, List.reduceReplicate]; refine pwx_sr 2 [] (by rfl) fun _ K1 => ?_; simp (disch := omega) only [go_sem]; refine K1 _ ?_; clear K1
  rcases hs : (decide (x < 0) == decide (y < 0)) with _ | _
  · refine pwx_sr 0 [some 5, some 6, some 7, some 8, some 9, some 10, some 11, some 12, some 13, some 14, some 15, some 16, some 17, some 4] (by rfl) fun _ K2 => ?_; refine rgnX_take 11 fun _ K3 => ?_; simp (disch := omega) only [go_sem, hs]
    first | refine ⟨_, c_swarfref01_compare _ _ (by omega) (by omega), ?_⟩ | skip
    refine K3 _ ?_; simp (disch := omega) only [go_sem, hs]; refine K2 _ ?_; clear K3 K2; refine pwp_ret ?_; refine ⟨Or.inr rfl, ?_⟩; simp (disch := omega) only [go_sem]; rw [same_f hs]
  · refine pwx_sr 0 [some 5, some 6, some 7, some 8, some 9, some 10, some 11, some 12, some 13, some 14, some 15, some 16, some 17, some 4] (by rfl) fun _ K4 => ?_; refine rgnX_take 11 fun _ K5 => ?_; simp (disch := omega) only [go_sem, hs]
    first | refine ⟨_, c_swarfref01_compare _ _ (by omega) (by omega), ?_⟩ | skip
    refine K5 _ ?_; simp (disch := omega) only [go_sem, hs]; refine K4 _ ?_; clear K5 K4; refine pwp_ret ?_; refine ⟨Or.inr rfl, ?_⟩; simp (disch := omega) only [go_sem]; rw [same_t hs]

end Go.Proofs.YtdojhoegildiaaaGreat

namespace Go.PL

structure PartI (u : List Nat) (V L kk : Nat) (W : List Nat) (R : Nat) : Prop where
  len : W.length = L
  dig : Dig W
  ul : u.length ≤ L
  eq : vd u kk = V * vd (W.take u.length) kk + R
  lt : R < V
theorem PartI.start {u : List Nat} {V L : Nat} (hV : 0 < V) (hu : u.length ≤ L) : PartI u V L u.length (List.replicate L 0) 0 :=
  ⟨by simp, dig_rep _, hu, by rw [vd_all (Nat.le_refl _), vd_all (by simp; omega)]; omega, hV⟩
theorem PartI.step {u W : List Nat} {V L i R S : Nat} (h : PartI u V L (i + 1) W R) (hi : i < u.length) (hS : S = dg u i + 1000000000 * R) (hd : S / V < 1000000000) (hV : 0 < V) : PartI u V L i (W.set i (S / V)) (S - V * (S / V)) := by
  have hiW : i < W.length := by have := h.len; have := h.ul; omega
  have e1 : vd u i = vd u (i + 1) * 1000000000 + dg u i := vd_step hi
  have e2 : vd ((W.set i (S / V)).take u.length) i = vd (W.take u.length) (i + 1) * 1000000000 + S / V := by
    rw [vd_step (by simp; omega)]
    have f1 : vd ((W.set i (S / V)).take u.length) (i + 1) = vd (W.take u.length) (i + 1) := by
      unfold vd
      rw [List.take_set, List.drop_set_of_lt (Nat.lt_succ_self i)]
    rw [f1, dg_take hi, dg_set hiW]
  have hle : V * (S / V) ≤ S := Nat.mul_div_le S V
  have hmod := Nat.mod_lt S hV
  have hdm := Nat.div_add_mod S V
  refine ⟨by rw [List.length_set]; exact h.len, h.dig.set (show S / V < 1000000000 from hd), h.ul, ?_, by omega⟩
  rw [e1, e2, h.eq]
  generalize S / V = d at *
  have e3 : V * (vd (W.take u.length) (i + 1) * 1000000000 + d) = V * vd (W.take u.length) (i + 1) * 1000000000 + V * d := by rw [Nat.mul_add, Nat.mul_assoc]
  rw [e3, Nat.add_mul]
  omega
theorem PartI.done {u W : List Nat} {B s A L R : Nat} (h : PartI u (B * s) L 0 W R) (hu : val u = A * s) (hs : 0 < s) (hB : 0 < B) : val (W.take u.length) = A / B ∧ R / s = A % B ∧ R = A % B * s := by
  have h1 := h.eq
  have h2 := h.lt
  rw [vd_zero, vd_zero, hu] at h1
  generalize val (W.take u.length) = Q at *
  have h4 : B * Q * s ≤ A * s := by
    have : B * s * Q = B * Q * s := by rw [Nat.mul_assoc, Nat.mul_comm s, Nat.mul_assoc]
    omega
  have h5 : B * Q ≤ A := Nat.le_of_mul_le_mul_right h4 hs
  obtain ⟨T, rfl⟩ : ∃ T, A = B * Q + T := ⟨A - B * Q, by omega⟩
  have h6 : R = T * s := by
    rw [Nat.add_mul] at h1
    have : B * s * Q = B * Q * s := by rw [Nat.mul_assoc, Nat.mul_comm s, Nat.mul_assoc]
    omega
  subst h6
  have h7 : T < B := Nat.lt_of_mul_lt_mul_right h2
  have e1 : (B * Q + T) / B = Q := by rw [Nat.mul_add_div hB, Nat.div_eq_of_lt h7, Nat.add_zero]
  have e2 : (B * Q + T) % B = T := by rw [Nat.mul_add_mod, Nat.mod_eq_of_lt h7]
  rw [e1, e2, Nat.mul_div_cancel _ hs]
  exact ⟨rfl, rfl, rfl⟩
theorem limbs_cons {d R : Nat} (hd : d < 1000000000) : val (d :: limbs R) = d + 1000000000 * R ∧ Dig (d :: limbs R) := by
  refine ⟨by rw [val, limbs_val, BS_eq], Dig.cons hd (limbs_dig R)⟩
theorem part_guess {S V n : Nat} (hn : (limbs V).length = n + 1) (hS : S < V * 1000000000) : S / V ≤ (dg (limbs S) (n + 1) * 1000000000 + dg (limbs S) n) / dg (limbs V) n ∧ S / V ≤ 999999999 := by
  obtain ⟨h1, h2⟩ := limbs_top hn
  have h3 := limbs_top0 hn
  have hV : 0 < V := by
    rcases Nat.eq_zero_or_pos V with q | q
    · rw [q, limbs_zero] at hn; simp at hn
    · exact q
  have hq : S / V < 1000000000 := Nat.div_lt_of_lt_mul hS
  refine ⟨?_, by omega⟩
  have hVlt : V < BS ^ (n + 1) := by have := limbs_lt V; rwa [hn] at this
  have hSlt : S < BS ^ (n + 2) := by
    have : V * BS ≤ BS ^ (n + 1) * BS := Nat.mul_le_mul_right _ (Nat.le_of_lt hVlt)
    have e9 : BS ^ (n + 1) * BS = BS ^ (n + 2) := rfl
    have hS' : S < V * BS := hS
    omega
  have hSv : S = vt (limbs S) n + BS ^ n * (dg (limbs S) (n + 1) * 1000000000 + dg (limbs S) n) := by
    have e := vt_all (l := limbs S) (i := n + 2) (limbs_len hSlt)
    rw [limbs_val, vt_succ, vt_succ, Nat.pow_succ] at e
    have e2 : BS ^ n * (dg (limbs S) (n + 1) * 1000000000 + dg (limbs S) n) = BS ^ n * BS * dg (limbs S) (n + 1) + BS ^ n * dg (limbs S) n := by
      rw [Nat.mul_add, Nat.mul_comm (dg (limbs S) (n + 1)), ← Nat.mul_assoc]; rfl
    omega
  have hlo := vt_lt (limbs_dig S) n
  generalize dg (limbs S) (n + 1) * 1000000000 + dg (limbs S) n = high at *
  rw [Nat.le_div_iff_mul_le h3]
  have h4 : S / V * V ≤ S := Nat.div_mul_le_self S V
  generalize S / V = q at *
  have h5 : q * (BS ^ n * dg (limbs V) n) ≤ q * V := Nat.mul_le_mul_left _ (by omega)
  have h6 : S < BS ^ n * (high + 1) := by rw [Nat.mul_add, Nat.mul_one]; omega
  have h7 : BS ^ n * (q * dg (limbs V) n) < BS ^ n * (high + 1) := by
    have : q * (BS ^ n * dg (limbs V) n) = BS ^ n * (q * dg (limbs V) n) := by ac_rfl
    omega
  have := Nat.lt_of_mul_lt_mul_left h7
  omega
theorem part_len {S V n : Nat} (hn : (limbs V).length = n + 1) (hS : S < V * 1000000000) : (limbs S).length ≤ n + 2 := by
  have hVlt : V < BS ^ (n + 1) := by have := limbs_lt V; rwa [hn] at this
  refine limbs_len ?_
  have : V * BS ≤ BS ^ (n + 1) * BS := Nat.mul_le_mul_right _ (Nat.le_of_lt hVlt)
  have e9 : BS ^ (n + 1) * BS = BS ^ (n + 2) := rfl
  have hS' : S < V * BS := hS
  omega
theorem lt_2 {A : Nat} (h : (limbs A).length ≤ 2) : A < 1000000000000000000 := by
  have h1 := limbs_lt A
  have h2 : BS ^ (limbs A).length ≤ BS ^ 2 := Nat.pow_le_pow_right (by decide) h
  have : BS ^ 2 = 1000000000000000000 := by decide
  omega
theorem part_exact {S V d : Nat} (hV : 0 < V) (hq : S / V ≤ d) (hle : V * d ≤ S) : d = S / V := by
  have : d ≤ S / V := by rw [Nat.le_div_iff_mul_le hV, Nat.mul_comm]; exact hle
  omega
theorem part_less {S V d : Nat} (hq : S / V ≤ d) (hlt : S < V * d) : 0 < d ∧ S / V ≤ d - 1 ∧ V ≤ V * d ∧ V * d - V = V * (d - 1) := by
  have hd : 0 < d := by
    rcases Nat.eq_zero_or_pos d with q | q
    · subst q; simp at hlt
    · exact q
  have h1 : S / V < d := Nat.div_lt_of_lt_mul hlt
  obtain ⟨e, rfl⟩ : ∃ e, d = e + 1 := ⟨d - 1, by omega⟩
  refine ⟨hd, by simp only [Nat.add_sub_cancel]; omega, by rw [Nat.mul_add, Nat.mul_one]; omega, by rw [Nat.mul_add, Nat.mul_one]; simp⟩
theorem part_take (d R k : Nat) : PC.sl (1 + (limbs R).length) (u32s (List.take (1 + (limbs R).length) (d :: (limbs R ++ List.replicate k 0)))) = lC (d :: limbs R) := by
  have e : List.take (1 + (limbs R).length) (d :: (limbs R ++ List.replicate k 0)) = d :: limbs R := by
    rw [Nat.add_comm, List.take_succ_cons, List.take_append_of_le_length (Nat.le_refl _), List.take_length]
  rw [e, sl_u32s (by simp; omega)]
theorem lC_nil : lC [] = .sl 0 [] := rfl
theorem cmpN_gtz {a b : Nat} : 0 < cmpN a b ↔ b < a := by unfold cmpN; split <;> (try split) <;> omega
end Go.PL

set_option linter.unusedSimpArgs false
set_option linter.unusedVariables false
set_option maxRecDepth 20000
namespace Go.Proofs.YtdojhoegildiaaaGreat
open Go Go.PL
set_option maxHeartbeats 8000000 in
theorem c_swarfref01_parts (A B : Nat) (hA : (limbs A).length ≤ 1000000) (hB : (limbs B).length ≤ 1000000) (hB0 : 0 < B) :
    Ret Tryz.prog 109 [.c (lC (limbs A)), .c (lC (limbs B))] (.t [.c (lC (limbs (A / B))), .c (lC (limbs (A % B)))]) := by
  refine ret_of_body (md := { mb := true }) Tryz.func109 (by kernel_rfl) rfl ?_; simp only [Tryz.f109, go_sem, Nat.reduceAdd, Nat.reduceSub, List.reduceReplicate]; have hl0 := limbs_lt0 hB0; refine pwx_sr 0 [] (by rfl) fun _ K1 => ?_; simp (disch := omega) only [go_sem]; refine K1 _ ?_; clear K1; refine pwp_seq ?_; refine pwp_join (true :: true :: false :: false :: false :: false :: false :: false :: false :: false :: false :: false :: false :: false :: false :: false :: false :: false :: false :: false :: false :: false :: false :: false :: false :: false :: false :: false :: true :: false :: false :: false :: false :: false :: false :: false :: false :: false :: false :: false :: false :: false :: false :: false :: false :: false :: false :: false :: false :: false :: false :: false :: false :: false :: false :: false :: false :: false :: false :: false :: false :: false :: false :: false :: false :: false :: false :: false :: false :: false :: false :: false :: false :: false :: false :: false :: false :: false :: false :: false :: false :: false :: false :: false :: false :: false :: false :: false :: false :: false :: false :: false :: false :: false :: false :: false :: false :: false :: false :: false :: false :: false :: false :: false :: false :: false :: false :: false :: false :: false :: false :: false :: false :: false :: false :: false :: false :: false :: false :: false :: false :: false :: false :: false :: false :: false :: false :: false :: false :: false :: false :: false :: false :: false :: false :: false :: false :: false :: false :: false :: false :: false :: false :: false :: false :: false :: false :: false :: false :: false :: false :: false :: false :: false :: false :: false :: false :: false :: false :: false :: false :: false :: false :: false :: false :: false :: false :: false :: false :: false :: false :: false :: false :: []) 0 (fun s => ∃ b : Bool, (b = decide ((limbs A).length ≤ 2 ∧ (limbs B).length ≤ 2)) ∧ s = { slots := .e (.c (lC (limbs A))) :: .e (.c (lC (limbs B))) :: .j :: .j :: .j :: .j :: .j :: .j :: .j :: .j :: .j :: .j :: .j :: .j :: .j :: .j :: .j :: .j :: .j :: .j :: .j :: .j :: .j :: .j :: .j :: .j :: .j :: .j :: .e (.c (.bool b)) :: .j :: .j :: .j :: .j :: .j :: .j :: .j :: .j :: .j :: .j :: .j :: .j :: .j :: .j :: .j :: .j :: .j :: .j :: .j :: .j :: .j :: .j :: .j :: .j :: .j :: .j :: .j :: .j :: .j :: .j :: .j :: .j :: .j :: .j :: .j :: .j :: .j :: .j :: .j :: .j :: .j :: .j :: .j :: .j :: .j :: .j :: .j :: .j :: .j :: .j :: .j :: .j :: .j :: .j :: .j :: .j :: .j :: .j :: .j :: .j :: .j :: .j :: .j :: .j :: .j :: .j :: .j :: .j :: .j :: .j :: .j :: .j :: .j :: .j :: .j :: .j :: .j :: .j :: .j :: .j :: .j :: .j :: .j :: .j :: .j :: .j :: .j :: .j :: .j :: .j :: .j :: .j :: .j :: .j :: .j :: .j :: .j :: .j :: .j :: .j :: .j :: .j :: .j :: .j :: .j :: .j :: .j :: .j :: .j :: .j :: .j :: .j :: .j :: .j :: .j :: .j :: .j :: .j :: .j :: .j :: .j :: .j :: .j :: .j :: .j :: .j :: .j :: .j :: .j :: .j :: .j :: .j :: .j :: .j :: .j :: .j :: .j :: .j :: .j :: .j :: .j :: .j :: .j :: .j :: [], st := [] }) rfl ?_ ?_
  · by_cases hs1 : (limbs A).length ≤ 2
    · refine pwx_region 0 [some 21, some 22, some 23, some 24, some 25, some 26, some 27, some 28] (by rfl) fun _ K2 => ?_; simp (disch := omega) only [go_sem]; refine K2 _ ?_; clear K2; refine n_then ?_; refine ⟨⟨?w1_0, ?hf0, ?heq⟩, ?hok⟩
      case heq => first | rfl | simp [St.cut, keep]
      case hf0 => exact decide_eq_decide.2 (by omega)
      case hok => refine ⟨rfl, ?_, ?_⟩ <;> first | rfl | (simp [keep, PV.lt, PE.lt, PC.lt, Box.lt, ↓lC_lt]; done) | simp [keep, PV.lt, PE.lt, PC.lt, Box.lt, ↓lC_lt, ↓intC_lt, ↓ratC_lt, ↓u32s_lt]
    · refine pwx_region 0 [some 21, some 22, some 23, some 24, some 25, some 26, some 27, some 28] (by rfl) fun _ K3 => ?_; simp (disch := omega) only [go_sem]; refine K3 _ ?_; clear K3; refine n_then ?_; refine ⟨⟨?w2_0, ?hf0, ?heq⟩, ?hok⟩
      case heq => first | rfl | simp [St.cut, keep]
      case hf0 => exact (decide_eq_false (by omega)).symm
      case hok => refine ⟨rfl, ?_, ?_⟩ <;> first | rfl | (simp [keep, PV.lt, PE.lt, PC.lt, Box.lt, ↓lC_lt]; done) | simp [keep, PV.lt, PE.lt, PC.lt, Box.lt, ↓lC_lt, ↓intC_lt, ↓ratC_lt, ↓u32s_lt]
  · rintro _ ⟨b, hb, rfl⟩
    refine pwp_cond (b := _) (by rfl) (fun hb0 => ?_) (fun hb0 => ?_)
    · rw [hb, decide_eq_true_eq] at hb0; have hA18 : A < 1000000000000000000 := lt_2 hb0.1; have hB18 : B < 1000000000000000000 := lt_2 hb0.2; have hw64 := wu64 (n := A / B) (Nat.lt_of_le_of_lt (Nat.div_le_self A B) (by omega)); refine pwx_sr 0 [] (by rfl) fun _ K4 => ?_; refine rgnX_take 2 fun _ K5 => ?_; simp (disch := omega) only [go_sem, limbs_val]; refine ⟨_, c_swarfref01_short _ (by omega), ?_⟩; refine K5 _ ?_; refine rgnX_take 2 fun _ K6 => ?_; simp (disch := omega) only [go_sem, limbs_val]; refine ⟨_, c_swarfref01_short _ (by omega), ?_⟩; refine K6 _ ?_; simp (disch := omega) only [go_sem, limbs_val]; refine K4 _ ?_; clear K6 K5 K4; refine pwx_sd Tryz.mixed 0 [] (by rfl) [] (by kernel_rfl) (by simp) fun _ K7 => ?_; refine rgnX_take 4 fun _ K8 => ?_; simp (disch := omega) only [go_sem, hw64]; refine ⟨_, c_swarfref01_limbs _ (Nat.lt_of_le_of_lt (Nat.div_le_self A B) (by omega)), ?_⟩; refine K8 _ ?_; refine rgnX_take 4 fun _ K9 => ?_; simp (disch := omega) only [go_sem, hw64]; refine ⟨_, c_swarfref01_limbs _ (Nat.lt_of_le_of_lt (Nat.mod_le A B) (by omega)), ?_⟩; refine K9 _ ?_; simp (disch := omega) only [go_sem, hw64]; refine K7 _ ?_; clear K9 K8 K7; refine pwp_ret ?_; refine r_then ?_; refine ⟨Or.inr rfl, ?_⟩; simp (disch := omega) only [go_sem]
    · rw [hb, decide_eq_false_iff_not] at hb0; obtain ⟨n, hn⟩ : ∃ n, (limbs B).length = n + 1 := ⟨(limbs B).length - 1, by omega⟩; obtain ⟨hvl, hvt, hs0, hs5⟩ := scaled_v hn (s := scl B) (by unfold scl; rw [hn]; rfl); have hd9 := dg_lt9 (limbs_dig B) ((limbs B).length - 1); have hsc : 1000000000 / (dg (limbs B) ((limbs B).length - 1) + 1) = scl B := rfl
      have hs6 : 1000000000 / (dg (limbs B) ((limbs B).length - 1) + 1) < 4294967296 := by rw [hsc]; omega
      have hV0 : 0 < B * scl B := Nat.mul_pos hB0 hs0; have hul := limbs_mul_len A (scl B); have hs1 : (limbs (scl B)).length ≤ 1 := limbs_len (k := 1) (by rw [Nat.pow_one]; show scl B < 1000000000; omega); have hvt9 := dg_lt9 (limbs_dig (B * scl B)) n; refine pwp_skip ?_; refine n_then ?_; refine pwx_sr 0 [] (by rfl) fun _ K10 => ?_; simp (disch := omega) only [go_sem, hsc]; refine K10 _ ?_; clear K10; refine pwx_sr 0 [] (by rfl) fun _ K11 => ?_; refine rgnX_take 3 fun _ K12 => ?_; simp (disch := omega) only [go_sem]; refine ⟨_, c_swarfref01_by _ _ (by omega) (by omega), ?_⟩; refine K12 _ ?_; simp (disch := omega) only [go_sem]; refine K11 _ ?_; clear K12 K11; refine pwx_sr 0 [] (by rfl) fun _ K13 => ?_; simp (disch := omega) only [go_sem, hvl, Nat.add_sub_cancel]; refine K13 _ ?_; clear K13; refine pwx_sr 0 [] (by rfl) fun _ K14 => ?_; simp (disch := omega) only [go_sem]; refine K14 _ ?_; clear K14; refine pwx_sr 1 [] (by rfl) fun _ K15 => ?_; simp (disch := omega) only [go_sem]; refine K15 _ ?_; clear K15; refine pwx_sr 0 [] (by rfl) fun _ K16 => ?_; refine rgnX_take 3 fun _ K17 => ?_; simp (disch := omega) only [go_sem]; refine ⟨_, c_swarfref01_by _ _ (by omega) (by omega), ?_⟩; refine K17 _ ?_; simp (disch := omega) only [go_sem]; refine K16 _ ?_; clear K17 K16; refine pwx_sr 0 [] (by rfl) fun _ K18 => ?_; simp (disch := omega) only [go_sem, cutm0]; refine K18 _ ?_; clear K18; refine pwp_seq ?_; refine pwp_norm ?_; simp only [List.map_cons, List.map_nil, PV.norm, PE.norm, nm_nils, nm_int, nm_bool, nm_sl, nm_msl, lC_norm]; refine pwx_sr 0 [] (by rfl) fun _ K19 => ?_; simp (disch := omega) only [go_sem]; refine K19 _ ?_; clear K19; refine pwp_block ?_; refine pwp_loopF (false :: false :: false :: false :: false :: false :: false :: false :: true :: true :: true :: true :: true :: true :: true :: false :: false :: false :: false :: false :: false :: false :: false :: false :: false :: false :: false :: false :: false :: false :: false :: false :: false :: false :: false :: false :: false :: false :: false :: false :: false :: false :: false :: false :: false :: false :: false :: false :: false :: false :: false :: false :: false :: false :: false :: false :: false :: false :: false :: false :: false :: false :: false :: false :: false :: false :: false :: false :: false :: false :: false :: false :: false :: false :: false :: false :: false :: false :: false :: false :: false :: false :: false :: false :: false :: false :: false :: false :: false :: false :: false :: false :: false :: false :: false :: false :: false :: false :: false :: false :: false :: false :: false :: false :: false :: false :: false :: false :: false :: false :: false :: false :: false :: false :: false :: false :: false :: false :: false :: false :: false :: false :: false :: false :: false :: false :: false :: false :: false :: false :: false :: false :: false :: false :: false :: false :: false :: false :: false :: false :: false :: false :: false :: false :: false :: false :: false :: false :: false :: false :: false :: false :: false :: false :: false :: false :: false :: false :: false :: false :: false :: false :: false :: false :: false :: false :: false :: false :: false :: false :: false :: false :: false :: []) 1 (fun M s => ∃ kk : Nat, ∃ W : List Nat, ∃ R : Nat, (kk ≤ (limbs (A * scl B)).length) ∧ (PartI (limbs (A * scl B)) (B * scl B) ((limbs A).length + 1) kk W R) ∧ kk = M ∧ s = { slots := .j :: .j :: .j :: .j :: .j :: .j :: .j :: .j :: .e (.c (.int .u32 (scl B : Int))) :: .e (.c (lC (limbs (B * scl B)))) :: .e (.c (.int .u64 (dg (limbs (B * scl B)) n : Int))) :: .e (.c (lC (limbs R))) :: .e (.c (.msl 0 0 (limbs (A * scl B)).length ((limbs A).length + 1) 1)) :: .e (.c (lC (limbs (A * scl B)))) :: .e (.c (.int .i64 ((kk : Int) - 1))) :: .j :: .j :: .j :: .j :: .j :: .j :: .j :: .j :: .j :: .j :: .j :: .j :: .j :: .j :: .j :: .j :: .j :: .j :: .j :: .j :: .j :: .j :: .j :: .j :: .j :: .j :: .j :: .j :: .j :: .j :: .j :: .j :: .j :: .j :: .j :: .j :: .j :: .j :: .j :: .j :: .j :: .j :: .j :: .j :: .j :: .j :: .j :: .j :: .j :: .j :: .j :: .j :: .j :: .j :: .j :: .j :: .j :: .j :: .j :: .j :: .j :: .j :: .j :: .j :: .j :: .j :: .j :: .j :: .j :: .j :: .j :: .j :: .j :: .j :: .j :: .j :: .j :: .j :: .j :: .j :: .j :: .j :: .j :: .j :: .j :: .j :: .j :: .j :: .j :: .j :: .j :: .j :: .j :: .j :: .j :: .j :: .j :: .j :: .j :: .j :: .j :: .j :: .j :: .j :: .j :: .j :: .j :: .j :: .j :: .j :: .j :: .j :: .j :: .j :: .j :: .j :: .j :: .j :: .j :: .j :: .j :: .j :: .j :: .j :: .j :: .j :: .j :: .j :: .j :: .j :: .j :: .j :: .j :: .j :: .j :: .j :: .j :: .j :: .j :: .j :: .j :: .j :: .j :: .j :: .j :: .j :: .j :: .j :: .j :: .j :: .j :: .j :: .j :: .j :: .j :: .j :: .j :: .j :: [], st := [.live (u32s W)] }) (n := (limbs (A * scl B)).length) rfl ?_ ?_ ?_
      · refine ⟨(limbs (A * scl B)).length, List.replicate ((limbs A).length + 1) 0, 0, ?_, ?_, rfl, ?_⟩
        · omega
        · exact PartI.start hV0 (by omega)
        · first | rfl | (simp only [limbs_zero, lC_nil, St.cut, keep, if_true, if_false, Bool.false_eq_true, List.take_succ_cons, List.take_zero, List.take_nil]; try simp; try omega)
      · refine ⟨rfl, ?_, ?_⟩ <;> first | rfl | (simp [keep, PV.lt, PE.lt, PC.lt, Box.lt, ↓lC_lt]; done) | simp [keep, PV.lt, PE.lt, PC.lt, Box.lt, ↓lC_lt, ↓intC_lt, ↓ratC_lt, ↓u32s_lt]
      · rintro _ _ ⟨kk, W, R, hkk, hP, rfl, rfl⟩
        refine pwp_seq ?_; refine pwx_sr 0 [] (by rfl) fun _ K20 => ?_; simp (disch := omega) only [go_sem]; refine K20 _ ?_; clear K20; refine pwp_cond (b := _) (by rfl) (fun hb1 => ?_) (fun hb1 => ?_)
        · replace hb1 := of_decide_eq_true hb1; obtain ⟨i, rfl⟩ : ∃ j, kk = j + 1 := ⟨kk - 1, by omega⟩; have hdi := dg_lt9 (limbs_dig (A * scl B)) i; have hRV := hP.lt; have hWl := hP.len
          have hS9 : (dg (limbs (A * scl B)) i + 1000000000 * R) < (B * scl B) * 1000000000 := by omega
          have hpg := part_guess hvl hS9; have hlc := limbs_cons (R := R) hdi
          have hRl : (limbs R).length ≤ n + 1 := by have := limbs_len_mono (Nat.le_of_lt hRV); omega
          have hSl : (limbs (dg (limbs (A * scl B)) i + 1000000000 * R)).length ≤ n + 2 := part_len hvl hS9; refine pwp_skip ?_; refine n_then ?_; refine pwp_seq ?_; refine pwp_block ?_; refine pwp_join (false :: false :: false :: false :: false :: false :: false :: false :: true :: true :: true :: true :: true :: true :: true :: false :: false :: false :: false :: false :: false :: false :: false :: false :: false :: false :: false :: false :: false :: false :: false :: false :: false :: false :: false :: false :: false :: false :: false :: false :: false :: false :: false :: false :: false :: false :: false :: false :: false :: false :: false :: false :: false :: false :: false :: false :: false :: false :: false :: false :: false :: false :: false :: false :: false :: false :: false :: false :: false :: false :: false :: false :: false :: false :: false :: false :: false :: false :: false :: false :: false :: false :: false :: false :: false :: false :: false :: false :: false :: false :: false :: false :: false :: false :: false :: false :: false :: false :: false :: false :: false :: false :: false :: false :: false :: false :: false :: false :: false :: false :: false :: false :: false :: false :: false :: false :: false :: false :: false :: false :: false :: false :: false :: false :: false :: false :: false :: false :: false :: false :: false :: false :: false :: false :: false :: false :: false :: false :: false :: false :: false :: false :: false :: false :: false :: false :: false :: false :: false :: false :: false :: false :: false :: false :: false :: false :: false :: false :: false :: false :: false :: false :: false :: false :: false :: false :: false :: false :: false :: false :: false :: false :: false :: []) 1 (fun s => s = { slots := .j :: .j :: .j :: .j :: .j :: .j :: .j :: .j :: .e (.c (.int .u32 (scl B : Int))) :: .e (.c (lC (limbs (B * scl B)))) :: .e (.c (.int .u64 (dg (limbs (B * scl B)) n : Int))) :: .e (.c (lC (limbs (dg (limbs (A * scl B)) i + 1000000000 * R)))) :: .e (.c (.msl 0 0 (limbs (A * scl B)).length ((limbs A).length + 1) 1)) :: .e (.c (lC (limbs (A * scl B)))) :: .e (.c (.int .i64 (i : Int))) :: .j :: .j :: .j :: .j :: .j :: .j :: .j :: .j :: .j :: .j :: .j :: .j :: .j :: .j :: .j :: .j :: .j :: .j :: .j :: .j :: .j :: .j :: .j :: .j :: .j :: .j :: .j :: .j :: .j :: .j :: .j :: .j :: .j :: .j :: .j :: .j :: .j :: .j :: .j :: .j :: .j :: .j :: .j :: .j :: .j :: .j :: .j :: .j :: .j :: .j :: .j :: .j :: .j :: .j :: .j :: .j :: .j :: .j :: .j :: .j :: .j :: .j :: .j :: .j :: .j :: .j :: .j :: .j :: .j :: .j :: .j :: .j :: .j :: .j :: .j :: .j :: .j :: .j :: .j :: .j :: .j :: .j :: .j :: .j :: .j :: .j :: .j :: .j :: .j :: .j :: .j :: .j :: .j :: .j :: .j :: .j :: .j :: .j :: .j :: .j :: .j :: .j :: .j :: .j :: .j :: .j :: .j :: .j :: .j :: .j :: .j :: .j :: .j :: .j :: .j :: .j :: .j :: .j :: .j :: .j :: .j :: .j :: .j :: .j :: .j :: .j :: .j :: .j :: .j :: .j :: .j :: .j :: .j :: .j :: .j :: .j :: .j :: .j :: .j :: .j :: .j :: .j :: .j :: .j :: .j :: .j :: .j :: .j :: .j :: .j :: .j :: .j :: .j :: .j :: .j :: .j :: .j :: .j :: [], st := [.live (u32s W)] }) rfl ?_ ?_
          · rcases Nat.eq_zero_or_pos (limbs R).length with hR0 | hR0
            · obtain rfl : R = 0 := limbs_eq_nil.1 (List.eq_nil_of_length_eq_zero hR0); refine pwx_region 2 [] (by rfl) fun _ K21 => ?_; refine rgnX_take 8 fun _ K22 => ?_; simp (disch := omega) only [go_sem, limbs_zero, u32s_nil, u32s_append, u32s_cons, le_F, val_single]
              first | refine Or.inl ⟨_, c_swarfref01_trim [dg (limbs (A * scl B)) i] (Dig.cons hdi Dig.nil) (by simp), ?_⟩ | (intro c hc1; simp (disch := omega) only [go_sem, part_take]; refine Or.inl ⟨_, c_swarfref01_trim (dg (limbs (A * scl B)) i :: limbs R) hlc.2 (by simp; omega), ?_⟩)
              refine K22 _ ?_; simp (disch := omega) only [go_sem, limbs_zero, u32s_nil, u32s_append, u32s_cons, le_F, val_single]; refine K21 _ ?_; clear K22 K21; refine n_then ?_; refine ⟨?heq, ?hok⟩
              case heq => first | rfl | (simp only [hlc.1, val_single, Nat.mul_zero, Nat.add_zero, St.cut, keep, if_true, if_false, Bool.false_eq_true, List.take_succ_cons, List.take_zero, List.take_nil]; try simp)
              case hok => refine ⟨rfl, ?_, ?_⟩ <;> first | rfl | (simp [keep, PV.lt, PE.lt, PC.lt, Box.lt, ↓lC_lt]; done) | simp [keep, PV.lt, PE.lt, PC.lt, Box.lt, ↓lC_lt, ↓intC_lt, ↓ratC_lt, ↓u32s_lt]
            · refine pwx_region 2 [] (by rfl) fun _ K23 => ?_; refine rgnX_take 8 fun _ K24 => ?_; simp (disch := omega) only [go_sem, limbs_zero, u32s_nil, u32s_append, u32s_cons, le_F, val_single]
              first | refine Or.inl ⟨_, c_swarfref01_trim [dg (limbs (A * scl B)) i] (Dig.cons hdi Dig.nil) (by simp), ?_⟩ | (intro c hc1; simp (disch := omega) only [go_sem, part_take]; refine Or.inl ⟨_, c_swarfref01_trim (dg (limbs (A * scl B)) i :: limbs R) hlc.2 (by simp; omega), ?_⟩)
              refine K24 _ ?_; simp (disch := omega) only [go_sem, limbs_zero, u32s_nil, u32s_append, u32s_cons, le_F, val_single]; refine K23 _ ?_; clear K24 K23; refine n_then ?_; refine ⟨?heq, ?hok⟩
              case heq => first | rfl | (simp only [hlc.1, val_single, Nat.mul_zero, Nat.add_zero, St.cut, keep, if_true, if_false, Bool.false_eq_true, List.take_succ_cons, List.take_zero, List.take_nil]; try simp)
              case hok => refine ⟨rfl, ?_, ?_⟩ <;> first | rfl | (simp [keep, PV.lt, PE.lt, PC.lt, Box.lt, ↓lC_lt]; done) | simp [keep, PV.lt, PE.lt, PC.lt, Box.lt, ↓lC_lt, ↓intC_lt, ↓ratC_lt, ↓u32s_lt]
          · rintro _ rfl
            have hS1 := dg_lt9 (limbs_dig (dg (limbs (A * scl B)) i + 1000000000 * R)) (n + 1); have hS0 := dg_lt9 (limbs_dig (dg (limbs (A * scl B)) i + 1000000000 * R)) n; refine pwx_sr 0 [] (by rfl) fun _ K25 => ?_; simp (disch := omega) only [go_sem]; refine K25 _ ?_; clear K25; refine pwp_join (false :: false :: false :: false :: false :: false :: false :: false :: true :: true :: true :: true :: true :: true :: true :: true :: false :: false :: false :: false :: false :: false :: false :: false :: false :: false :: false :: false :: false :: false :: false :: false :: false :: false :: false :: false :: false :: false :: false :: false :: false :: false :: false :: false :: false :: false :: false :: false :: false :: false :: false :: false :: false :: false :: false :: false :: false :: false :: false :: false :: false :: false :: false :: false :: false :: false :: false :: false :: false :: false :: false :: false :: false :: false :: false :: false :: false :: false :: false :: false :: false :: false :: false :: false :: false :: false :: false :: false :: false :: false :: false :: false :: false :: false :: false :: false :: false :: false :: false :: false :: false :: false :: false :: false :: false :: false :: false :: false :: false :: false :: false :: false :: false :: false :: false :: false :: false :: false :: false :: false :: false :: false :: false :: false :: false :: false :: false :: false :: false :: false :: false :: false :: false :: false :: false :: false :: false :: false :: false :: false :: false :: false :: false :: false :: false :: false :: false :: false :: false :: false :: false :: false :: false :: false :: false :: false :: false :: false :: false :: false :: false :: false :: false :: false :: false :: false :: false :: false :: false :: false :: false :: false :: false :: []) 1 (fun s => ∃ h : Nat, (h = dg (limbs (dg (limbs (A * scl B)) i + 1000000000 * R)) (n + 1) * 1000000000) ∧ s = { slots := .j :: .j :: .j :: .j :: .j :: .j :: .j :: .j :: .e (.c (.int .u32 (scl B : Int))) :: .e (.c (lC (limbs (B * scl B)))) :: .e (.c (.int .u64 (dg (limbs (B * scl B)) n : Int))) :: .e (.c (lC (limbs (dg (limbs (A * scl B)) i + 1000000000 * R)))) :: .e (.c (.msl 0 0 (limbs (A * scl B)).length ((limbs A).length + 1) 1)) :: .e (.c (lC (limbs (A * scl B)))) :: .e (.c (.int .i64 (i : Int))) :: .e (.c (.int .u64 (h : Int))) :: .j :: .j :: .j :: .j :: .j :: .j :: .j :: .j :: .j :: .j :: .j :: .j :: .j :: .j :: .j :: .j :: .j :: .j :: .j :: .j :: .j :: .j :: .j :: .j :: .j :: .j :: .j :: .j :: .j :: .j :: .j :: .j :: .j :: .j :: .j :: .j :: .j :: .j :: .j :: .j :: .j :: .j :: .j :: .j :: .j :: .j :: .j :: .j :: .j :: .j :: .j :: .j :: .j :: .j :: .j :: .j :: .j :: .j :: .j :: .j :: .j :: .j :: .j :: .j :: .j :: .j :: .j :: .j :: .j :: .j :: .j :: .j :: .j :: .j :: .j :: .j :: .j :: .j :: .j :: .j :: .j :: .j :: .j :: .j :: .j :: .j :: .j :: .j :: .j :: .j :: .j :: .j :: .j :: .j :: .j :: .j :: .j :: .j :: .j :: .j :: .j :: .j :: .j :: .j :: .j :: .j :: .j :: .j :: .j :: .j :: .j :: .j :: .j :: .j :: .j :: .j :: .j :: .j :: .j :: .j :: .j :: .j :: .j :: .j :: .j :: .j :: .j :: .j :: .j :: .j :: .j :: .j :: .j :: .j :: .j :: .j :: .j :: .j :: .j :: .j :: .j :: .j :: .j :: .j :: .j :: .j :: .j :: .j :: .j :: .j :: .j :: .j :: .j :: .j :: .j :: .j :: .j :: [], st := [.live (u32s W)] }) rfl ?_ ?_
            · refine pwx_sr 0 [] (by rfl) fun _ K26 => ?_; simp (disch := omega) only [go_sem, hvl]; refine K26 _ ?_; clear K26; refine pwp_cond (b := _) (by rfl) (fun hb2 => ?_) (fun hb2 => ?_)
              · first | replace hb2 := of_decide_eq_true hb2 | skip
                refine pwx_region 0 [] (by rfl) fun _ K27 => ?_; simp (disch := omega) only [go_sem, hvl]; refine K27 _ ?_; clear K27; refine n_then ?_; refine ⟨⟨?w6_0, ?hf0, ?heq⟩, ?hok⟩
                case heq => first | rfl | simp [St.cut, keep]
                case hf0 => rfl
                case hok => refine ⟨rfl, ?_, ?_⟩ <;> first | rfl | (simp [keep, PV.lt, PE.lt, PC.lt, Box.lt, ↓lC_lt]; done) | simp [keep, PV.lt, PE.lt, PC.lt, Box.lt, ↓lC_lt, ↓intC_lt, ↓ratC_lt, ↓u32s_lt]
              · first | replace hb2 := of_decide_eq_false hb2 | skip
                refine pwp_skip ?_; refine n_then ?_; refine ⟨⟨0, ?hf0, ?heq⟩, ?hok⟩
                case heq => first | rfl | simp [St.cut, keep]
                case hf0 => rw [dg_out (by omega)]
                case hok => refine ⟨rfl, ?_, ?_⟩ <;> first | rfl | (simp [keep, PV.lt, PE.lt, PC.lt, Box.lt, ↓lC_lt]; done) | simp [keep, PV.lt, PE.lt, PC.lt, Box.lt, ↓lC_lt, ↓intC_lt, ↓ratC_lt, ↓u32s_lt]
            · rintro _ ⟨h, hh, rfl⟩
              have hd9 := dg_lt9 (limbs_dig (dg (limbs (A * scl B)) i + 1000000000 * R)) (n + 1); refine pwp_join (false :: false :: false :: false :: false :: false :: false :: false :: true :: true :: true :: true :: true :: true :: true :: true :: false :: false :: false :: false :: false :: false :: false :: false :: false :: false :: false :: false :: false :: false :: false :: false :: false :: false :: false :: false :: false :: false :: false :: false :: false :: false :: false :: false :: false :: false :: false :: false :: false :: false :: false :: false :: false :: false :: false :: false :: false :: false :: false :: false :: false :: false :: false :: false :: false :: false :: false :: false :: false :: false :: false :: false :: false :: false :: false :: false :: false :: false :: false :: false :: false :: false :: false :: false :: false :: false :: false :: false :: false :: false :: false :: false :: false :: false :: false :: false :: false :: false :: false :: false :: false :: false :: false :: false :: false :: false :: false :: false :: false :: false :: false :: false :: false :: false :: false :: false :: false :: false :: false :: false :: false :: false :: false :: false :: false :: false :: false :: false :: false :: false :: false :: false :: false :: false :: false :: false :: false :: false :: false :: false :: false :: false :: false :: false :: false :: false :: false :: false :: false :: false :: false :: false :: false :: false :: false :: false :: false :: false :: false :: false :: false :: false :: false :: false :: false :: false :: false :: false :: false :: false :: false :: false :: false :: []) 1 (fun s => ∃ h : Nat, (h = dg (limbs (dg (limbs (A * scl B)) i + 1000000000 * R)) (n + 1) * 1000000000 + dg (limbs (dg (limbs (A * scl B)) i + 1000000000 * R)) n) ∧ s = { slots := .j :: .j :: .j :: .j :: .j :: .j :: .j :: .j :: .e (.c (.int .u32 (scl B : Int))) :: .e (.c (lC (limbs (B * scl B)))) :: .e (.c (.int .u64 (dg (limbs (B * scl B)) n : Int))) :: .e (.c (lC (limbs (dg (limbs (A * scl B)) i + 1000000000 * R)))) :: .e (.c (.msl 0 0 (limbs (A * scl B)).length ((limbs A).length + 1) 1)) :: .e (.c (lC (limbs (A * scl B)))) :: .e (.c (.int .i64 (i : Int))) :: .e (.c (.int .u64 (h : Int))) :: .j :: .j :: .j :: .j :: .j :: .j :: .j :: .j :: .j :: .j :: .j :: .j :: .j :: .j :: .j :: .j :: .j :: .j :: .j :: .j :: .j :: .j :: .j :: .j :: .j :: .j :: .j :: .j :: .j :: .j :: .j :: .j :: .j :: .j :: .j :: .j :: .j :: .j :: .j :: .j :: .j :: .j :: .j :: .j :: .j :: .j :: .j :: .j :: .j :: .j :: .j :: .j :: .j :: .j :: .j :: .j :: .j :: .j :: .j :: .j :: .j :: .j :: .j :: .j :: .j :: .j :: .j :: .j :: .j :: .j :: .j :: .j :: .j :: .j :: .j :: .j :: .j :: .j :: .j :: .j :: .j :: .j :: .j :: .j :: .j :: .j :: .j :: .j :: .j :: .j :: .j :: .j :: .j :: .j :: .j :: .j :: .j :: .j :: .j :: .j :: .j :: .j :: .j :: .j :: .j :: .j :: .j :: .j :: .j :: .j :: .j :: .j :: .j :: .j :: .j :: .j :: .j :: .j :: .j :: .j :: .j :: .j :: .j :: .j :: .j :: .j :: .j :: .j :: .j :: .j :: .j :: .j :: .j :: .j :: .j :: .j :: .j :: .j :: .j :: .j :: .j :: .j :: .j :: .j :: .j :: .j :: .j :: .j :: .j :: .j :: .j :: .j :: .j :: .j :: .j :: .j :: .j :: [], st := [.live (u32s W)] }) rfl ?_ ?_
              · refine pwx_sr 0 [] (by rfl) fun _ K28 => ?_; simp (disch := omega) only [go_sem, hvl]; refine K28 _ ?_; clear K28; refine pwp_cond (b := _) (by rfl) (fun hb3 => ?_) (fun hb3 => ?_)
                · first | replace hb3 := of_decide_eq_true hb3 | skip
                  refine pwx_region 0 [] (by rfl) fun _ K29 => ?_; simp (disch := omega) only [go_sem, hvl, Nat.add_sub_cancel]; refine K29 _ ?_; clear K29; refine n_then ?_; refine ⟨⟨?w8_0, ?hf0, ?heq⟩, ?hok⟩
                  case heq => first | rfl | simp [St.cut, keep]
                  case hf0 => omega
                  case hok => refine ⟨rfl, ?_, ?_⟩ <;> first | rfl | (simp [keep, PV.lt, PE.lt, PC.lt, Box.lt, ↓lC_lt]; done) | simp [keep, PV.lt, PE.lt, PC.lt, Box.lt, ↓lC_lt, ↓intC_lt, ↓ratC_lt, ↓u32s_lt]
                · first | replace hb3 := of_decide_eq_false hb3 | skip
                  refine pwp_skip ?_; refine n_then ?_; refine ⟨⟨h, ?hf0, ?heq⟩, ?hok⟩
                  case heq => first | rfl | simp [St.cut, keep]
                  case hf0 => rw [hh, dg_out (l := limbs (dg (limbs (A * scl B)) i + 1000000000 * R)) (i := n) (by omega), dg_out (l := limbs (dg (limbs (A * scl B)) i + 1000000000 * R)) (i := n + 1) (by omega)]
                  case hok => refine ⟨rfl, ?_, ?_⟩ <;> first | rfl | (simp [keep, PV.lt, PE.lt, PC.lt, Box.lt, ↓lC_lt]; done) | simp [keep, PV.lt, PE.lt, PC.lt, Box.lt, ↓lC_lt, ↓intC_lt, ↓ratC_lt, ↓u32s_lt]
              · rintro _ ⟨h, hh, rfl⟩
                have hh9 : h < 1000000000000000000 := by omega
                have hwq := wu64 (n := h / dg (limbs (B * scl B)) n) (Nat.lt_of_le_of_lt (Nat.div_le_self _ _) (by omega)); refine pwx_sr 0 [] (by rfl) fun _ K30 => ?_; simp (disch := omega) only [go_sem, hwq]; refine K30 _ ?_; clear K30; refine pwp_join (false :: false :: false :: false :: false :: false :: false :: false :: true :: true :: true :: true :: true :: true :: true :: false :: true :: false :: false :: false :: false :: false :: false :: false :: false :: false :: false :: false :: false :: false :: false :: false :: false :: false :: false :: false :: false :: false :: false :: false :: false :: false :: false :: false :: false :: false :: false :: false :: false :: false :: false :: false :: false :: false :: false :: false :: false :: false :: false :: false :: false :: false :: false :: false :: false :: false :: false :: false :: false :: false :: false :: false :: false :: false :: false :: false :: false :: false :: false :: false :: false :: false :: false :: false :: false :: false :: false :: false :: false :: false :: false :: false :: false :: false :: false :: false :: false :: false :: false :: false :: false :: false :: false :: false :: false :: false :: false :: false :: false :: false :: false :: false :: false :: false :: false :: false :: false :: false :: false :: false :: false :: false :: false :: false :: false :: false :: false :: false :: false :: false :: false :: false :: false :: false :: false :: false :: false :: false :: false :: false :: false :: false :: false :: false :: false :: false :: false :: false :: false :: false :: false :: false :: false :: false :: false :: false :: false :: false :: false :: false :: false :: false :: false :: false :: false :: false :: false :: false :: false :: false :: false :: false :: false :: []) 1 (fun s => ∃ d : Nat, ((dg (limbs (A * scl B)) i + 1000000000 * R) / (B * scl B) ≤ d) ∧ (d ≤ 999999999) ∧ s = { slots := .j :: .j :: .j :: .j :: .j :: .j :: .j :: .j :: .e (.c (.int .u32 (scl B : Int))) :: .e (.c (lC (limbs (B * scl B)))) :: .e (.c (.int .u64 (dg (limbs (B * scl B)) n : Int))) :: .e (.c (lC (limbs (dg (limbs (A * scl B)) i + 1000000000 * R)))) :: .e (.c (.msl 0 0 (limbs (A * scl B)).length ((limbs A).length + 1) 1)) :: .e (.c (lC (limbs (A * scl B)))) :: .e (.c (.int .i64 (i : Int))) :: .j :: .e (.c (.int .u64 (d : Int))) :: .j :: .j :: .j :: .j :: .j :: .j :: .j :: .j :: .j :: .j :: .j :: .j :: .j :: .j :: .j :: .j :: .j :: .j :: .j :: .j :: .j :: .j :: .j :: .j :: .j :: .j :: .j :: .j :: .j :: .j :: .j :: .j :: .j :: .j :: .j :: .j :: .j :: .j :: .j :: .j :: .j :: .j :: .j :: .j :: .j :: .j :: .j :: .j :: .j :: .j :: .j :: .j :: .j :: .j :: .j :: .j :: .j :: .j :: .j :: .j :: .j :: .j :: .j :: .j :: .j :: .j :: .j :: .j :: .j :: .j :: .j :: .j :: .j :: .j :: .j :: .j :: .j :: .j :: .j :: .j :: .j :: .j :: .j :: .j :: .j :: .j :: .j :: .j :: .j :: .j :: .j :: .j :: .j :: .j :: .j :: .j :: .j :: .j :: .j :: .j :: .j :: .j :: .j :: .j :: .j :: .j :: .j :: .j :: .j :: .j :: .j :: .j :: .j :: .j :: .j :: .j :: .j :: .j :: .j :: .j :: .j :: .j :: .j :: .j :: .j :: .j :: .j :: .j :: .j :: .j :: .j :: .j :: .j :: .j :: .j :: .j :: .j :: .j :: .j :: .j :: .j :: .j :: .j :: .j :: .j :: .j :: .j :: .j :: .j :: .j :: .j :: .j :: .j :: .j :: .j :: .j :: [], st := [.live (u32s W)] }) rfl ?_ ?_
                · refine pwx_sr 0 [] (by rfl) fun _ K31 => ?_; simp (disch := omega) only [go_sem]; refine K31 _ ?_; clear K31; refine pwp_cond (b := _) (by rfl) (fun hb4 => ?_) (fun hb4 => ?_)
                  · first | replace hb4 := of_decide_eq_true hb4 | skip
                    refine pwx_region 0 [] (by rfl) fun _ K32 => ?_; simp (disch := omega) only [go_sem]; refine K32 _ ?_; clear K32; refine n_then ?_; refine ⟨⟨999999999, ?hf0, ?hf1, ?heq⟩, ?hok⟩
                    case heq => first | rfl | simp [St.cut, keep]
                    case hf0 => exact hpg.2
                    case hf1 => omega
                    case hok => refine ⟨rfl, ?_, ?_⟩ <;> first | rfl | (simp [keep, PV.lt, PE.lt, PC.lt, Box.lt, ↓lC_lt]; done) | simp [keep, PV.lt, PE.lt, PC.lt, Box.lt, ↓lC_lt, ↓intC_lt, ↓ratC_lt, ↓u32s_lt]
                  · first | replace hb4 := of_decide_eq_false hb4 | skip
                    refine pwp_skip ?_; refine n_then ?_; refine ⟨⟨?w11_0, ?hf0, ?hf1, ?heq⟩, ?hok⟩
                    case heq => first | rfl | simp [St.cut, keep]
                    case hf0 => rw [hh]; exact hpg.1
                    case hf1 => omega
                    case hok => refine ⟨rfl, ?_, ?_⟩ <;> first | rfl | (simp [keep, PV.lt, PE.lt, PC.lt, Box.lt, ↓lC_lt]; done) | simp [keep, PV.lt, PE.lt, PC.lt, Box.lt, ↓lC_lt, ↓intC_lt, ↓ratC_lt, ↓u32s_lt]
                · rintro _ ⟨d, hq, hd9, rfl⟩
                  refine pwx_sr 0 [] (by rfl) fun _ K33 => ?_; refine rgnX_take 4 fun _ K34 => ?_; simp (disch := omega) only [go_sem]; refine ⟨_, c_swarfref01_by _ _ (by omega) (by omega), ?_⟩; refine K34 _ ?_; simp (disch := omega) only [go_sem]; refine K33 _ ?_; clear K34 K33; refine pwp_seq ?_; refine pwp_block ?_; refine pwp_loopF (false :: false :: false :: false :: false :: false :: false :: false :: true :: true :: true :: true :: true :: true :: true :: false :: true :: true :: false :: false :: false :: false :: false :: false :: false :: false :: false :: false :: false :: false :: false :: false :: false :: false :: false :: false :: false :: false :: false :: false :: false :: false :: false :: false :: false :: false :: false :: false :: false :: false :: false :: false :: false :: false :: false :: false :: false :: false :: false :: false :: false :: false :: false :: false :: false :: false :: false :: false :: false :: false :: false :: false :: false :: false :: false :: false :: false :: false :: false :: false :: false :: false :: false :: false :: false :: false :: false :: false :: false :: false :: false :: false :: false :: false :: false :: false :: false :: false :: false :: false :: false :: false :: false :: false :: false :: false :: false :: false :: false :: false :: false :: false :: false :: false :: false :: false :: false :: false :: false :: false :: false :: false :: false :: false :: false :: false :: false :: false :: false :: false :: false :: false :: false :: false :: false :: false :: false :: false :: false :: false :: false :: false :: false :: false :: false :: false :: false :: false :: false :: false :: false :: false :: false :: false :: false :: false :: false :: false :: false :: false :: false :: false :: false :: false :: false :: false :: false :: false :: false :: false :: false :: false :: false :: []) 1 (fun M s => ∃ d : Nat, ((dg (limbs (A * scl B)) i + 1000000000 * R) / (B * scl B) ≤ d) ∧ (d ≤ 999999999) ∧ d = M ∧ s = { slots := .j :: .j :: .j :: .j :: .j :: .j :: .j :: .j :: .e (.c (.int .u32 (scl B : Int))) :: .e (.c (lC (limbs (B * scl B)))) :: .e (.c (.int .u64 (dg (limbs (B * scl B)) n : Int))) :: .e (.c (lC (limbs (dg (limbs (A * scl B)) i + 1000000000 * R)))) :: .e (.c (.msl 0 0 (limbs (A * scl B)).length ((limbs A).length + 1) 1)) :: .e (.c (lC (limbs (A * scl B)))) :: .e (.c (.int .i64 (i : Int))) :: .j :: .e (.c (.int .u64 (d : Int))) :: .e (.c (lC (limbs ((B * scl B) * d)))) :: .j :: .j :: .j :: .j :: .j :: .j :: .j :: .j :: .j :: .j :: .j :: .j :: .j :: .j :: .j :: .j :: .j :: .j :: .j :: .j :: .j :: .j :: .j :: .j :: .j :: .j :: .j :: .j :: .j :: .j :: .j :: .j :: .j :: .j :: .j :: .j :: .j :: .j :: .j :: .j :: .j :: .j :: .j :: .j :: .j :: .j :: .j :: .j :: .j :: .j :: .j :: .j :: .j :: .j :: .j :: .j :: .j :: .j :: .j :: .j :: .j :: .j :: .j :: .j :: .j :: .j :: .j :: .j :: .j :: .j :: .j :: .j :: .j :: .j :: .j :: .j :: .j :: .j :: .j :: .j :: .j :: .j :: .j :: .j :: .j :: .j :: .j :: .j :: .j :: .j :: .j :: .j :: .j :: .j :: .j :: .j :: .j :: .j :: .j :: .j :: .j :: .j :: .j :: .j :: .j :: .j :: .j :: .j :: .j :: .j :: .j :: .j :: .j :: .j :: .j :: .j :: .j :: .j :: .j :: .j :: .j :: .j :: .j :: .j :: .j :: .j :: .j :: .j :: .j :: .j :: .j :: .j :: .j :: .j :: .j :: .j :: .j :: .j :: .j :: .j :: .j :: .j :: .j :: .j :: .j :: .j :: .j :: .j :: .j :: .j :: .j :: .j :: .j :: .j :: .j :: [], st := [.live (u32s W)] }) (n := d) rfl ?_ ?_ ?_
                  · refine ⟨d, ?_, ?_, rfl, ?_⟩
                    · exact hq
                    · exact hd9
                    · first | rfl | simp [St.cut, keep]
                  · refine ⟨rfl, ?_, ?_⟩ <;> first | rfl | (simp [keep, PV.lt, PE.lt, PC.lt, Box.lt, ↓lC_lt]; done) | simp [keep, PV.lt, PE.lt, PC.lt, Box.lt, ↓lC_lt, ↓intC_lt, ↓ratC_lt, ↓u32s_lt]
                  · rintro _ _ ⟨d, hq, hd9, rfl, rfl⟩
                    have hdl := limbs_mul_len (B * scl B) d; have hd1 : (limbs d).length ≤ 1 := limbs_len (k := 1) (by rw [Nat.pow_one]; show d < 1000000000; omega); refine pwp_seq ?_; refine pwx_sr 0 [] (by rfl) fun _ K35 => ?_; refine rgnX_take 3 fun _ K36 => ?_; simp (disch := omega) only [go_sem]; refine ⟨_, c_swarfref01_compare _ _ (by omega) (by omega), ?_⟩; refine K36 _ ?_; simp (disch := omega) only [go_sem]; refine K35 _ ?_; clear K36 K35; refine pwp_cond (b := _) (by rfl) (fun hb5 => ?_) (fun hb5 => ?_)
                    · replace hb5 := cmpN_gtz.1 (of_decide_eq_true hb5); have hless := part_less hq hb5; have hvd := hless.2.2.2; have hd0 := hless.1; have hVl : (limbs (B * scl B)).length ≤ (limbs ((B * scl B) * d)).length := limbs_len_mono hless.2.2.1; refine pwp_skip ?_; refine n_then ?_; refine pwp_block ?_; refine pwx_sr 0 [] (by rfl) fun _ K37 => ?_; simp (disch := omega) only [go_sem]; refine K37 _ ?_; clear K37; refine pwx_region 0 [] (by rfl) fun _ K38 => ?_; refine rgnX_take 3 fun _ K39 => ?_; simp (disch := omega) only [go_sem, limbs_val, hvd]; refine ⟨_, c_swarfref01_minus _ (limbs_dig _) (by omega) _ (limbs_dig _) (by omega) (by simp only [limbs_val]; exact hless.2.2.1), ?_⟩; refine K39 _ ?_; simp (disch := omega) only [go_sem, limbs_val, hvd]; refine K38 _ ?_; clear K39 K38; refine n_block ?_; refine n_then ?_; refine ⟨_, ?hdec, ⟨d - 1, ?hf0, ?hf1, rfl, ?heq⟩, ?hok⟩
                      case heq => first | rfl | simp [St.cut, keep]
                      case hf0 => exact hless.2.1
                      case hf1 => omega
                      case hdec => omega
                      case hok => refine ⟨rfl, ?_, ?_⟩ <;> first | rfl | (simp [keep, PV.lt, PE.lt, PC.lt, Box.lt, ↓lC_lt]; done) | simp [keep, PV.lt, PE.lt, PC.lt, Box.lt, ↓lC_lt, ↓intC_lt, ↓ratC_lt, ↓u32s_lt]
                    · replace hb5 := Nat.le_of_not_lt fun h => of_decide_eq_false hb5 (cmpN_gtz.2 h)
                      have hd := part_exact hV0 hq hb5
                      have hi9 : i < W.length := by omega
                      refine pwp_exit ?_; refine e_then ?_; refine e_then ?_; refine e_here ?_; refine n_then ?_; refine pwx_sr 0 [] (by rfl) fun _ K40 => ?_; refine rgnX_take 3 fun _ K41 => ?_; simp (disch := omega) only [go_sem, limbs_val]; refine ⟨_, c_swarfref01_minus _ (limbs_dig _) (by omega) _ (limbs_dig _) (by omega) (by simp only [limbs_val]; first | exact hb6 | exact hb7 | exact hb8 | exact hb5 | omega), ?_⟩; refine K41 _ ?_; simp (disch := omega) only [go_sem, limbs_val]; refine K40 _ ?_; clear K41 K40; refine pwx_region 0 [] (by rfl) fun _ K42 => ?_; simp (disch := omega) only [go_sem]; refine K42 _ ?_; clear K42; refine n_block ?_; refine n_then ?_; refine pwx_region 0 [] (by rfl) fun _ K43 => ?_; simp (disch := omega) only [go_sem]; refine K43 _ ?_; clear K43; refine n_then ?_; refine ⟨_, ?hdec, ⟨i, W.set i d, (dg (limbs (A * scl B)) i + 1000000000 * R) - (B * scl B) * d, ?hf0, ?hf1, rfl, ?heq⟩, ?hok⟩
                      case heq => first | rfl | (simp only [limbs_zero, lC_nil, St.cut, keep, if_true, if_false, Bool.false_eq_true, List.take_succ_cons, List.take_zero, List.take_nil]; try simp; try omega)
                      case hf0 => omega
                      case hf1 => rw [hd]; exact hP.step (by omega) rfl (Nat.lt_of_le_of_lt hpg.2 (by omega)) hV0
                      case hdec => omega
                      case hok => refine ⟨rfl, ?_, ?_⟩ <;> first | rfl | (simp [keep, PV.lt, PE.lt, PC.lt, Box.lt, ↓lC_lt]; done) | simp [keep, PV.lt, PE.lt, PC.lt, Box.lt, ↓lC_lt, ↓intC_lt, ↓ratC_lt, ↓u32s_lt]
        · replace hb1 := of_decide_eq_false hb1
          obtain rfl : kk = 0 := by omega
          have hWl := hP.len
          have hRl : (limbs R).length ≤ n + 1 := by have := limbs_len_mono (Nat.le_of_lt hP.lt); omega
          have hdn := hP.done (limbs_val _) hs0 hB0; refine pwp_exit ?_; refine e_then ?_; refine e_then ?_; refine e_here ?_; refine n_then ?_; refine pwx_sr 0 [] (by rfl) fun _ K44 => ?_; simp (disch := omega) only [go_sem]; refine K44 _ ?_; clear K44; refine pwx_sr 1 [] (by rfl) fun _ K45 => ?_; simp (disch := omega) only [go_sem]; refine K45 _ ?_; clear K45; refine pwp_seq ?_; refine pwx_sr 0 [] (by rfl) fun _ K46 => ?_; simp (disch := omega) only [go_sem]; refine K46 _ ?_; clear K46; refine pwp_block ?_; refine pwp_loopF (false :: false :: false :: false :: false :: false :: false :: false :: true :: false :: false :: true :: true :: false :: false :: false :: false :: false :: true :: true :: true :: false :: false :: false :: false :: false :: false :: false :: false :: false :: false :: false :: false :: false :: false :: false :: false :: false :: false :: false :: false :: false :: false :: false :: false :: false :: false :: false :: false :: false :: false :: false :: false :: false :: false :: false :: false :: false :: false :: false :: false :: false :: false :: false :: false :: false :: false :: false :: false :: false :: false :: false :: false :: false :: false :: false :: false :: false :: false :: false :: false :: false :: false :: false :: false :: false :: false :: false :: false :: false :: false :: false :: false :: false :: false :: false :: false :: false :: false :: false :: false :: false :: false :: false :: false :: false :: false :: false :: false :: false :: false :: false :: false :: false :: false :: false :: false :: false :: false :: false :: false :: false :: false :: false :: false :: false :: false :: false :: false :: false :: false :: false :: false :: false :: false :: false :: false :: false :: false :: false :: false :: false :: false :: false :: false :: false :: false :: false :: false :: false :: false :: false :: false :: false :: false :: false :: false :: false :: false :: false :: false :: false :: false :: false :: false :: false :: false :: false :: false :: false :: false :: false :: false :: []) 2 (fun M s => ∃ k : Nat, ∃ out : List Nat, ∃ q : Nat, (k ≤ (limbs R).length) ∧ (WordI (limbs R) (scl B) k out q) ∧ k = M ∧ s = { slots := .j :: .j :: .j :: .j :: .j :: .j :: .j :: .j :: .e (.c (.int .u32 (scl B : Int))) :: .j :: .j :: .e (.c (lC (limbs R))) :: .e (.c (.msl 0 0 (limbs (A * scl B)).length ((limbs A).length + 1) 1)) :: .j :: .j :: .j :: .j :: .j :: .e (.c (.int .u64 (q : Int))) :: .e (.c (.msl 1 0 (limbs R).length (limbs R).length 1)) :: .e (.c (.int .i64 ((k : Int) - 1))) :: .j :: .j :: .j :: .j :: .j :: .j :: .j :: .j :: .j :: .j :: .j :: .j :: .j :: .j :: .j :: .j :: .j :: .j :: .j :: .j :: .j :: .j :: .j :: .j :: .j :: .j :: .j :: .j :: .j :: .j :: .j :: .j :: .j :: .j :: .j :: .j :: .j :: .j :: .j :: .j :: .j :: .j :: .j :: .j :: .j :: .j :: .j :: .j :: .j :: .j :: .j :: .j :: .j :: .j :: .j :: .j :: .j :: .j :: .j :: .j :: .j :: .j :: .j :: .j :: .j :: .j :: .j :: .j :: .j :: .j :: .j :: .j :: .j :: .j :: .j :: .j :: .j :: .j :: .j :: .j :: .j :: .j :: .j :: .j :: .j :: .j :: .j :: .j :: .j :: .j :: .j :: .j :: .j :: .j :: .j :: .j :: .j :: .j :: .j :: .j :: .j :: .j :: .j :: .j :: .j :: .j :: .j :: .j :: .j :: .j :: .j :: .j :: .j :: .j :: .j :: .j :: .j :: .j :: .j :: .j :: .j :: .j :: .j :: .j :: .j :: .j :: .j :: .j :: .j :: .j :: .j :: .j :: .j :: .j :: .j :: .j :: .j :: .j :: .j :: .j :: .j :: .j :: .j :: .j :: .j :: .j :: .j :: .j :: .j :: .j :: .j :: .j :: [], st := [.live (u32s W), .live (u32s out)] }) (n := (limbs R).length) rfl ?_ ?_ ?_
          · refine ⟨(limbs R).length, List.replicate (limbs R).length 0, 0, ?_, ?_, rfl, ?_⟩
            · omega
            · exact WordI.zero (limbs R) hs0
            · first | rfl | simp [St.cut, keep]
          · refine ⟨rfl, ?_, ?_⟩ <;> first | rfl | (simp [keep, PV.lt, PE.lt, PC.lt, Box.lt, ↓lC_lt]; done) | simp [keep, PV.lt, PE.lt, PC.lt, Box.lt, ↓lC_lt, ↓intC_lt, ↓ratC_lt, ↓u32s_lt]
          · rintro _ _ ⟨k, out, q, hk, hI, rfl, rfl⟩
            have hlen := hI.len; have hq := hI.rst
            have hbz : ¬ ((scl B : Nat) : Int) = 0 := by omega
            refine pwp_seq ?_; refine pwx_sr 0 [] (by rfl) fun _ K47 => ?_; simp (disch := omega) only [go_sem]; refine K47 _ ?_; clear K47; refine pwp_cond (b := _) (by rfl) (fun hb6 => ?_) (fun hb6 => ?_)
            · replace hb6 := of_decide_eq_true hb6; obtain ⟨k, rfl⟩ : ∃ j, k = j + 1 := ⟨k - 1, by omega⟩; have hx := dg_lt9 (limbs_dig R) k; have hbd : q * 1000000000 + dg (limbs R) k < scl B * 1000000000 := hI.bound (limbs_dig R); have ht0 : (q * 1000000000 + dg (limbs R) k) / scl B < 1000000000 := Nat.div_lt_of_lt_mul hbd; have ht1 := Nat.mod_lt (q * 1000000000 + dg (limbs R) k) hs0; have hw64 := wu64 (Nat.lt_trans ht0 (by omega)); have hw32 := wu32 (Nat.lt_trans ht0 (by omega)); refine pwp_skip ?_; refine n_then ?_; refine pwp_seq ?_; refine pwp_block ?_; refine pwx_sr 0 [] (by rfl) fun _ K48 => ?_; simp (disch := omega) only [go_sem]; refine K48 _ ?_; clear K48; refine pwx_sr 0 [] (by rfl) fun _ K49 => ?_; simp (disch := omega) only [go_sem, hw64, hw32]; refine K49 _ ?_; clear K49; refine pwx_region 0 [] (by rfl) fun _ K50 => ?_; simp (disch := omega) only [go_sem]; refine K50 _ ?_; clear K50; refine n_block ?_; refine n_then ?_; refine pwx_region 0 [] (by rfl) fun _ K51 => ?_; simp (disch := omega) only [go_sem]; refine K51 _ ?_; clear K51; refine n_then ?_; refine ⟨_, ?hdec, ⟨k, out.set k ((q * 1000000000 + dg (limbs R) k) / scl B), (q * 1000000000 + dg (limbs R) k) % scl B, ?hf0, ?hf1, rfl, ?heq⟩, ?hok⟩
              case heq => first | rfl | simp [St.cut, keep]
              case hf0 => omega
              case hf1 => exact hI.step (limbs_dig R) (by omega) rfl
              case hdec => omega
              case hok => refine ⟨rfl, ?_, ?_⟩ <;> first | rfl | (simp [keep, PV.lt, PE.lt, PC.lt, Box.lt, ↓lC_lt]; done) | simp [keep, PV.lt, PE.lt, PC.lt, Box.lt, ↓lC_lt, ↓intC_lt, ↓ratC_lt, ↓u32s_lt]
            · replace hb6 := of_decide_eq_false hb6
              obtain rfl : k = 0 := by omega
              obtain ⟨hI1, hI2⟩ := hI.done; refine pwp_exit ?_; refine e_then ?_; refine e_then ?_; refine e_here ?_; refine n_then ?_; have hsl1 := sl_u32s (n := (limbs (A * scl B)).length) (l := W.take (limbs (A * scl B)).length) (by simp; omega)
              have hsl2 : PC.sl (limbs R).length (u32s (List.take (limbs R).length out)) = lC out := by rw [List.take_of_length_le (by omega), sl_u32s (by omega)]
              refine pwx_sr 0 [] (by rfl) fun _ K52 => ?_; refine rgnX_take 2 fun _ K53 => ?_; simp (disch := omega) only [go_sem, hsl1, hsl2]; refine Or.inl ⟨_, c_swarfref01_trim (W.take (limbs (A * scl B)).length) (hP.dig.take _) (by simp; omega), ?_⟩; refine K53 _ ?_; refine rgnX_take 2 fun _ K54 => ?_; simp (disch := omega) only [go_sem, hsl1, hsl2]; refine Or.inl ⟨_, c_swarfref01_trim out (hI1 ▸ fl_dig _ _) (by omega), ?_⟩; refine K54 _ ?_; simp (disch := omega) only [go_sem, hsl1, hsl2]; refine K52 _ ?_; clear K54 K53 K52; refine pwp_ret ?_; refine ⟨Or.inr rfl, ?_⟩; simp (disch := omega) only [go_sem]
              have hvo : val out = A % B := by rw [hI1, limbs_val, val_fl, Nat.mod_eq_of_lt (Nat.lt_of_le_of_lt (Nat.div_le_self _ _) (limbs_lt R))]; exact hdn.2.1
              rw [hdn.1, hvo]; exact ⟨rfl, rfl⟩

end Go.Proofs.YtdojhoegildiaaaGreat

namespace Go.PL
theorem gcd_case (X Y : Nat) : (Y = 0 ∧ (limbs Y).length = 0) ∨ (0 < Y ∧ 2 < (limbs X).length) ∨ (0 < Y ∧ ¬ 2 < (limbs X).length ∧ 2 < (limbs Y).length) ∨ (0 < Y ∧ (limbs X).length ≤ 2 ∧ (limbs Y).length ≤ 2) := by
  rcases Nat.eq_zero_or_pos Y with h | h
  · exact .inl ⟨h, by rw [h, limbs_zero]; rfl⟩
  · by_cases c : 2 < (limbs X).length
    · exact .inr (.inl ⟨h, c⟩)
    · by_cases c2 : 2 < (limbs Y).length
      · exact .inr (.inr (.inl ⟨h, c, c2⟩))
      · exact .inr (.inr (.inr ⟨h, by omega, by omega⟩))
theorem ic_u32s (σ : List Box) (l : List Nat) : (u32s l).map (immC σ) = u32s l := by
  simp only [u32s, List.map_map]
  exact List.map_congr_left fun _ _ => rfl
theorem sqrt_x0 (k c : Nat) : [PC.bool false, PC.sl (k + 1) (u32s (List.take (k + 1) (List.replicate k 0 ++ 1 :: List.replicate c 0)))] = intC ((BS ^ k : Nat) : Int) := by
  obtain ⟨h1, h2, h3⟩ := sqrt_val0 k c
  have e : List.take (k + 1) (List.replicate k 0 ++ 1 :: List.replicate c 0) = List.replicate k 0 ++ [1] := by
    rw [List.take_append, List.length_replicate, List.take_of_length_le (by simp)]
    have : k + 1 - k = 1 := by omega
    rw [this]; rfl
  have hn : Nrm (List.replicate k 0 ++ [1]) := ⟨e ▸ h3, by simp⟩
  have hl : limbs (BS ^ k) = List.replicate k 0 ++ [1] := by rw [← h1, e]; exact limbs_of hn
  have hb : decide (((BS ^ k : Nat) : Int) < 0) = false := decide_eq_false (by omega)
  rw [sl_u32s h2.symm, e]
  simp only [intC, Int.natAbs_natCast, hl, hb]
def vldB (neg : Bool) (l : List Nat) : Bool := l.all (fun x => decide (x < 1000000000)) && (if l.length = 0 then !neg else !decide (dg l (l.length - 1) = 0))
theorem vld_bad {neg : Bool} {l : List Nat} {i : Nat} (hi : i < l.length) (h : 1000000000 ≤ dg l i) : vldB neg l = false := by
  unfold vldB
  rw [Bool.and_eq_false_iff]
  left
  rw [List.all_eq_false]
  refine ⟨l[i], List.getElem_mem hi, ?_⟩
  simp only [dg, List.getD_eq_getElem?_getD, List.getElem?_eq_getElem hi, Option.getD_some] at h
  simp; omega
theorem vld_next {l : List Nat} {i : Nat} (hv : ∀ j, j < i → dg l j < 1000000000) (h : dg l i < 1000000000) : ∀ j, j < i + 1 → dg l j < 1000000000 := by
  intro j hj
  rcases Nat.lt_or_ge j i with q | q
  · exact hv j q
  · have : j = i := by omega
    subst this; exact h
theorem trim_len_le {l : List Nat} (hd : Dig l) : (limbs (val l)).length ≤ l.length := limbs_len (val_lt hd)
theorem vld_dig {l : List Nat} (h : ∀ j, j < l.length → dg l j < 1000000000) : Dig l ∧ l.all (fun x => decide (x < 1000000000)) = true := by
  have hd : Dig l := by
    intro x hx
    obtain ⟨j, hj, rfl⟩ := List.getElem_of_mem hx
    have := h j hj
    simp only [dg, List.getD_eq_getElem?_getD, List.getElem?_eq_getElem hj, Option.getD_some] at this
    exact this
  exact ⟨hd, by rw [List.all_eq_true]; intro x hx; exact decide_eq_true (hd x hx)⟩
theorem vld_pos {neg : Bool} {l : List Nat} (h : ∀ j, j < l.length → dg l j < 1000000000) (hl : 0 < l.length) : vldB neg l = !decide (dg l (l.length - 1) = 0) := by
  unfold vldB; rw [(vld_dig h).2, if_neg (by omega)]; rfl
theorem vld_zero {neg : Bool} {l : List Nat} (hl : l.length = 0) : vldB neg l = !neg := by
  have : l = [] := List.eq_nil_of_length_eq_zero hl
  subst this; rfl
theorem dg_pos_trim {l : List Nat} (hd : Dig l) : (limbs (val l)).length = l.length ↔ (l.length = 0 ∨ dg l (l.length - 1) ≠ 0) := by
  constructor
  · intro h
    rcases Nat.eq_zero_or_pos l.length with q | q
    · exact .inl q
    · refine .inr fun h0 => ?_
      have hlt : val l < BS ^ (l.length - 1) := by
        have e := vt_succ l (l.length - 1)
        rw [h0, Nat.mul_zero, Nat.add_zero, Nat.sub_add_cancel q, vt_all (Nat.le_refl _)] at e
        rw [e]; exact vt_lt hd _
      have := limbs_len hlt
      omega
  · intro h
    have := trim_done hd (Nat.le_refl _) (vt_all (Nat.le_refl _)) h
    rw [List.take_length] at this
    rw [← this]
theorem vld_nt {neg : Bool} {l : List Nat} (hv : ∀ j, j < l.length → dg l j < 1000000000) (h : ¬ (limbs (val l)).length = l.length) : vldB neg l = false := by
  have h1 := (not_congr (dg_pos_trim (vld_dig hv).1)).1 h
  have h2 : ¬ l.length = 0 := fun q => h1 (.inl q)
  have h3 : dg l (l.length - 1) = 0 := Classical.not_not.1 fun q => h1 (.inr q)
  rw [vld_pos hv (by omega), h3]; rfl
theorem vld_t {neg : Bool} {l : List Nat} (hv : ∀ j, j < l.length → dg l j < 1000000000) (h : (limbs (val l)).length = l.length) : vldB neg l = (!neg || decide (0 < (l.length : Int))) := by
  rcases (dg_pos_trim (vld_dig hv).1).1 h with q | q
  · rw [vld_zero q, q]; cases neg <;> rfl
  · by_cases h0 : l.length = 0
    · rw [vld_zero h0, h0]; cases neg <;> rfl
    · rw [vld_pos hv (by omega)]
      have : (0 : Int) < l.length := by omega
      simp [q, this]; omega
theorem vld_true {neg : Bool} {l : List Nat} (h : vldB neg l = true) : ∃ z : Int, neg = decide (z < 0) ∧ l = limbs z.natAbs := by
  unfold vldB at h
  rw [Bool.and_eq_true] at h
  have hd : Dig l := fun x hx => by have := List.all_eq_true.1 h.1 x hx; exact of_decide_eq_true this
  by_cases h0 : l.length = 0
  · rw [if_pos h0] at h
    have : l = [] := List.eq_nil_of_length_eq_zero h0
    subst this
    refine ⟨0, ?_, by simp [limbs_zero]⟩
    have := h.2
    cases neg <;> simp_all
  · rw [if_neg h0] at h
    have h1 := (dg_pos_trim hd).2 (.inr (by simpa using h.2))
    have h2 := trim_done hd (Nat.le_refl _) (vt_all (Nat.le_refl _)) (.inr (by simpa using h.2))
    rw [List.take_length] at h2
    have hv : 0 < val l := len_pos (by rw [h1]; omega)
    refine ⟨sg neg (val l), ?_, by rw [sg_natAbs]; exact h2⟩
    cases neg
    · simp [sg]
    · simp [sg]; omega
theorem vld_int (z : Int) : vldB (decide (z < 0)) (limbs z.natAbs) = true := by
  have hd := limbs_dig z.natAbs
  unfold vldB
  rw [Bool.and_eq_true]
  refine ⟨by rw [List.all_eq_true]; intro x hx; exact decide_eq_true (hd x hx), ?_⟩
  by_cases h0 : (limbs z.natAbs).length = 0
  · rw [if_pos h0]
    have := limbs_eq_nil.1 (List.eq_nil_of_length_eq_zero h0)
    have : z = 0 := by omega
    subst this; rfl
  · rw [if_neg h0]
    have h1 := (dg_pos_trim hd).1 (by rw [limbs_val])
    have h2 := h1.resolve_left h0
    simp [h2]
end Go.PL

set_option linter.unusedSimpArgs false
set_option linter.unusedVariables false
set_option maxRecDepth 20000
namespace Go.Proofs.YtdojhoegildiaaaGreat
open Go Go.PL
set_option maxHeartbeats 4000000 in
theorem c_swarfref01_DivMod (x y : Int) (hx : (limbs x.natAbs).length ≤ 1000000) (hy : (limbs y.natAbs).length ≤ 1000000) (hy0 : 0 < y) :
    Ret Tryz.prog 89 [.a (intC x), .a (intC y)] (.t [.a (intC (x / y)), .a (intC (x % y)), .c (.int .i64 0)]) := by
  refine ret_of_body (md := {}) Tryz.func89 (by kernel_rfl) rfl ?_; simp only [Tryz.f89, go_sem, Nat.reduceAdd, Nat.reduceSub, List.reduceReplicate]; have hlB := limbs_lt0 (show 0 < y.natAbs by omega); have hq3 := limbs_len_mono (Nat.div_le_self x.natAbs y.natAbs); have hr3 := limbs_len_mono (Nat.mod_le x.natAbs y.natAbs); refine pwx_sr 4 [] (by rfl) fun _ K1 => ?_; simp (disch := omega) only [go_sem]; refine K1 _ ?_; clear K1; refine pwp_seq ?_; refine pwx_sr 0 [] (by rfl) fun _ K2 => ?_; simp (disch := omega) only [go_sem]; refine K2 _ ?_; clear K2; refine pwp_cond (b := false) (by rfl) (fun h => nomatch h) (fun _ => ?_); refine pwp_skip ?_; refine n_then ?_; refine pwx_sr 0 [] (by rfl) fun _ K3 => ?_; refine rgnX_take 5 fun _ K4 => ?_; simp (disch := omega) only [go_sem]; refine ⟨_, c_swarfref01_parts _ _ (by omega) (by omega) (by omega), ?_⟩; refine K4 _ ?_; simp (disch := omega) only [go_sem]; refine K3 _ ?_; clear K4 K3; by_cases hx0 : x < 0
  · refine pwx_sd Tryz.mixed 2 [] (by rfl) [] (by kernel_rfl) (by simp) fun _ K5 => ?_; refine rgnX_take 7 fun _ K6 => ?_; simp (disch := omega) only [go_sem, ilt_F]; refine ⟨_, c_swarfref01_signed _ _ (limbs_dig _) (by omega), ?_⟩; refine K6 _ ?_; refine rgnX_take 4 fun _ K7 => ?_; simp (disch := omega) only [go_sem, ilt_F]; refine ⟨_, c_swarfref01_signed _ _ (limbs_dig _) (by omega), ?_⟩; refine K7 _ ?_; simp (disch := omega) only [go_sem, ilt_F]; refine K5 _ ?_; clear K7 K6 K5; refine pwp_seq ?_; by_cases hr : x.natAbs % y.natAbs = 0
    · refine pwx_sr 0 [some 36, some 37, some 38, some 39, some 40, some 41, some 42, some 43, some 44, some 45] (by rfl) fun _ K8 => ?_; simp (disch := omega) only [go_sem, hr, limbs_zero, limbs_val, ilt_F, sgf_lt, sgt_lt]; refine K8 _ ?_; clear K8; refine pwp_cond (b := false) (by rfl) (fun h => nomatch h) (fun _ => ?_); refine pwp_skip ?_; refine n_then ?_; refine pwx_sd Tryz.mixed 0 [] (by rfl) [(10, 4)] (by kernel_rfl) (by simp [Differ, St.pad]) fun _ K9 => ?_; simp (disch := omega) only [go_sem, limbs_val]; refine K9 _ ?_; clear K9; refine pwp_ret ?_; refine ⟨Or.inr rfl, ?_⟩; simp (disch := omega) only [go_sem]
      rw [← (dm_neg0 hx0 hy0 hr).1, ← (dm_neg0 hx0 hy0 hr).2, hr]; exact ⟨rfl, rfl⟩
    · have hl := limbs_pos_len hr; have hr0 := Nat.pos_of_ne_zero hr; refine pwx_sr 0 [some 36, some 37, some 38, some 39, some 40, some 41, some 42, some 43, some 44, some 45] (by rfl) fun _ K10 => ?_; simp (disch := omega) only [go_sem, hr, limbs_zero, limbs_val, ilt_F, sgf_lt, sgt_lt]; refine K10 _ ?_; clear K10; refine pwp_cond (b := _) (by rfl) (fun hb2 => ?_) (fun hb2 => ?_)
      · first
        | (exfalso; simp at hb2; done)
        | (refine pwx_draw Tryz.mixed 0 [] (by rfl) [] (by kernel_rfl) (by simp) fun _ K11 => ?_
           refine rgnX_take 2 fun _ K12 => ?_; simp (disch := omega) only [go_sem, limbs_val]; refine ⟨_, c_swarfref01_FromInt64 _ (by omega) (by omega), ?_⟩; refine K12 _ ?_; refine rgnX_take 1 fun _ K13 => ?_; simp (disch := omega) only [go_sem, limbs_val]; refine ⟨_, c_swarfref01_Sub _ _ (by simp only [sg_natAbs]; omega) (by exact len_lit (k := 3) (by decide)), ?_⟩; refine K13 _ ?_; refine rgnX_take 3 fun _ K14 => ?_; simp (disch := omega) only [go_sem, limbs_val]; refine ⟨_, c_swarfref01_Add _ _ (by simp only [sg_natAbs]; omega) (by omega), ?_⟩; refine K14 _ ?_; simp (disch := omega) only [go_sem, limbs_val]; refine K11 _ ?_; clear K14 K13 K12 K11; refine n_then ?_; refine pwx_sd Tryz.mixed 0 [] (by rfl) [(10, 4)] (by kernel_rfl) (by simp [Differ, St.pad]) fun _ K15 => ?_; simp (disch := omega) only [go_sem, limbs_val]; refine K15 _ ?_; clear K15; refine pwp_ret ?_; refine ⟨Or.inr rfl, ?_⟩; simp (disch := omega) only [go_sem]
           rw [← (dm_neg1 hx0 hy0 hr).1, ← (dm_neg1 hx0 hy0 hr).2]; exact ⟨rfl, rfl⟩)
      · first
        | (exfalso; simp at hb2; done)
        | (refine pwp_skip ?_
           refine n_then ?_; refine pwx_sd Tryz.mixed 0 [] (by rfl) [(10, 4)] (by kernel_rfl) (by simp [Differ, St.pad]) fun _ K16 => ?_; simp (disch := omega) only [go_sem, limbs_val]; refine K16 _ ?_; clear K16; refine pwp_ret ?_; refine ⟨Or.inr rfl, ?_⟩; simp (disch := omega) only [go_sem]
           trivial)
  · refine pwx_sd Tryz.mixed 2 [] (by rfl) [] (by kernel_rfl) (by simp) fun _ K17 => ?_; refine rgnX_take 7 fun _ K18 => ?_; simp (disch := omega) only [go_sem, ilt_F]; refine ⟨_, c_swarfref01_signed _ _ (limbs_dig _) (by omega), ?_⟩; refine K18 _ ?_; refine rgnX_take 4 fun _ K19 => ?_; simp (disch := omega) only [go_sem, ilt_F]; refine ⟨_, c_swarfref01_signed _ _ (limbs_dig _) (by omega), ?_⟩; refine K19 _ ?_; simp (disch := omega) only [go_sem, ilt_F]; refine K17 _ ?_; clear K19 K18 K17; refine pwp_seq ?_; by_cases hr : x.natAbs % y.natAbs = 0
    · refine pwx_sr 0 [some 36, some 37, some 38, some 39, some 40, some 41, some 42, some 43, some 44, some 45] (by rfl) fun _ K20 => ?_; simp (disch := omega) only [go_sem, hr, limbs_zero, limbs_val, ilt_F, sgf_lt, sgt_lt]; refine K20 _ ?_; clear K20; refine pwp_cond (b := false) (by rfl) (fun h => nomatch h) (fun _ => ?_); refine pwp_skip ?_; refine n_then ?_; refine pwx_sd Tryz.mixed 0 [] (by rfl) [(10, 4)] (by kernel_rfl) (by simp [Differ, St.pad]) fun _ K21 => ?_; simp (disch := omega) only [go_sem, limbs_val]; refine K21 _ ?_; clear K21; refine pwp_ret ?_; refine ⟨Or.inr rfl, ?_⟩; simp (disch := omega) only [go_sem]
      rw [← (dm_pos hx0 hy0).1, ← (dm_pos hx0 hy0).2, hr]; exact ⟨rfl, rfl⟩
    · have hl := limbs_pos_len hr; have hr0 := Nat.pos_of_ne_zero hr; refine pwx_sr 0 [some 36, some 37, some 38, some 39, some 40, some 41, some 42, some 43, some 44, some 45] (by rfl) fun _ K22 => ?_; simp (disch := omega) only [go_sem, hr, limbs_zero, limbs_val, ilt_F, sgf_lt, sgt_lt]; refine K22 _ ?_; clear K22; refine pwp_cond (b := _) (by rfl) (fun hb4 => ?_) (fun hb4 => ?_)
      · first
        | (exfalso; simp at hb4; done)
        | (refine pwx_draw Tryz.mixed 0 [] (by rfl) [] (by kernel_rfl) (by simp) fun _ K23 => ?_
           refine rgnX_take 2 fun _ K24 => ?_; simp (disch := omega) only [go_sem, limbs_val]; refine ⟨_, c_swarfref01_FromInt64 _ (by omega) (by omega), ?_⟩; refine K24 _ ?_; refine rgnX_take 1 fun _ K25 => ?_; simp (disch := omega) only [go_sem, limbs_val]; refine ⟨_, c_swarfref01_Sub _ _ (by simp only [sg_natAbs]; omega) (by exact len_lit (k := 3) (by decide)), ?_⟩; refine K25 _ ?_; refine rgnX_take 3 fun _ K26 => ?_; simp (disch := omega) only [go_sem, limbs_val]; refine ⟨_, c_swarfref01_Add _ _ (by simp only [sg_natAbs]; omega) (by omega), ?_⟩; refine K26 _ ?_; simp (disch := omega) only [go_sem, limbs_val]; refine K23 _ ?_; clear K26 K25 K24 K23; refine n_then ?_; refine pwx_sd Tryz.mixed 0 [] (by rfl) [(10, 4)] (by kernel_rfl) (by simp [Differ, St.pad]) fun _ K27 => ?_; simp (disch := omega) only [go_sem, limbs_val]; refine K27 _ ?_; clear K27; refine pwp_ret ?_; refine ⟨Or.inr rfl, ?_⟩; simp (disch := omega) only [go_sem]
           trivial)
      · first
        | (exfalso; simp at hb4; done)
        | (refine pwp_skip ?_
           refine n_then ?_; refine pwx_sd Tryz.mixed 0 [] (by rfl) [(10, 4)] (by kernel_rfl) (by simp [Differ, St.pad]) fun _ K28 => ?_; simp (disch := omega) only [go_sem, limbs_val]; refine K28 _ ?_; clear K28; refine pwp_ret ?_; refine ⟨Or.inr rfl, ?_⟩; simp (disch := omega) only [go_sem]
           rw [← (dm_pos hx0 hy0).1, ← (dm_pos hx0 hy0).2]; exact ⟨rfl, rfl⟩)
set_option maxHeartbeats 4000000 in
theorem c_swarfref01_GCD (x y : Int) (hx : (limbs x.natAbs).length ≤ 1000000) (hy : (limbs y.natAbs).length ≤ 1000000) :
    Ret Tryz.prog 64 [.a (intC x), .a (intC y)] (.e (.a (intC ((Nat.gcd x.natAbs y.natAbs : Nat) : Int)))) := by
  refine ret_of_body (md := {}) Tryz.func64 (by kernel_rfl) rfl ?_; simp only [Tryz.f64, go_sem, Nat.reduceAdd, Nat.reduceSub, List.reduceReplicate]; refine pwx_sr 3 [] (by rfl) fun _ K1 => ?_; simp (disch := omega) only [go_sem]; refine K1 _ ?_; clear K1; refine pwx_sd Tryz.mixed 0 [] (by rfl) [] (by kernel_rfl) (by simp) fun _ K2 => ?_; simp (disch := omega) only [go_sem]; refine K2 _ ?_; clear K2; refine pwp_seq ?_; refine pwp_block ?_; refine pwp_loopF (false :: false :: false :: false :: true :: true :: true :: false :: false :: false :: false :: false :: false :: false :: false :: false :: false :: false :: false :: false :: false :: false :: false :: false :: false :: false :: false :: false :: false :: false :: false :: false :: false :: false :: false :: false :: false :: false :: false :: false :: false :: false :: false :: false :: false :: false :: false :: false :: false :: false :: false :: false :: false :: false :: []) 3 (fun M s => ∃ X : Nat, ∃ Y : Nat, ((limbs X).length ≤ 1000000) ∧ ((limbs Y).length ≤ 1000000) ∧ (Nat.gcd X Y = Nat.gcd x.natAbs y.natAbs) ∧ Y = M ∧ s = { slots := .j :: .j :: .j :: .j :: .e (.c (.ptr 2 0)) :: .e (.c (lC (limbs X))) :: .e (.c (lC (limbs Y))) :: .j :: .j :: .j :: .j :: .j :: .j :: .j :: .j :: .j :: .j :: .j :: .j :: .j :: .j :: .j :: .j :: .j :: .j :: .j :: .j :: .j :: .j :: .j :: .j :: .j :: .j :: .j :: .j :: .j :: .j :: .j :: .j :: .j :: .j :: .j :: .j :: .j :: .j :: .j :: .j :: .j :: .j :: .j :: .j :: .j :: .j :: .j :: [], st := [.live (intC x), .live (intC y), .live [.bool false, .nils]] }) (n := y.natAbs) rfl ?_ ?_ ?_
  · refine ⟨x.natAbs, y.natAbs, ?_, ?_, ?_, rfl, ?_⟩
    · exact hx
    · exact hy
    · rfl
    · first | rfl | simp [St.cut, keep]
  · refine ⟨rfl, ?_, ?_⟩ <;> first | rfl | (simp [keep, PV.lt, PE.lt, PC.lt, Box.lt, ↓lC_lt]; done) | simp [keep, PV.lt, PE.lt, PC.lt, Box.lt, ↓lC_lt, ↓intC_lt, ↓ratC_lt, ↓u32s_lt]
  · rintro _ _ ⟨X, Y, hX, hY, hG, rfl, rfl⟩
    refine pwp_seq ?_
    rcases gcd_case X Y with ⟨rfl, hc⟩ | ⟨hY0, hX2⟩ | ⟨hY0, hX2, hY2⟩ | ⟨hY0, hX2, hY2⟩
    · have hl0 := hc; refine pwx_sr 0 [some 15, some 16, some 17, some 18, some 19, some 20, some 21, some 22, some 23, some 24, some 25, some 26, some 27] (by rfl) fun _ K3 => ?_; simp (disch := omega) only [go_sem, Int.natAbs_natCast, sg_false, limbs_val]; refine K3 _ ?_; clear K3; refine pwp_cond (b := false) (by rfl) (fun h => nomatch h) (fun _ => ?_); refine pwp_exit ?_; refine e_then ?_; refine e_then ?_; refine e_here ?_; refine n_then ?_; refine pwp_seq ?_; refine pwx_sr 0 [] (by rfl) fun _ K4 => ?_; simp (disch := omega) only [go_sem]; refine K4 _ ?_; clear K4; refine pwp_cond (b := true) (by rfl) (fun _ => ?_) (fun h => nomatch h); refine pwx_sr 0 [] (by rfl) fun _ K5 => ?_; refine rgnX_take 2 fun _ K6 => ?_; simp (disch := omega) only [go_sem, Int.natAbs_natCast, sg_false, limbs_val]; refine ⟨_, c_swarfref01_signed _ _ (limbs_dig _) (by omega), ?_⟩; refine K6 _ ?_; simp (disch := omega) only [go_sem, Int.natAbs_natCast, sg_false, limbs_val]; refine K5 _ ?_; clear K6 K5; refine pwp_ret ?_; refine r_then ?_; refine ⟨Or.inr rfl, ?_⟩; simp (disch := omega) only [go_sem]; rw [← hG, Nat.gcd_zero_right]
    · have hl0 := limbs_pos_len (Nat.ne_of_gt hY0); refine pwx_sr 0 [some 15, some 16, some 17, some 18, some 19, some 20, some 21, some 22, some 23, some 24, some 25, some 26, some 27] (by rfl) fun _ K7 => ?_; simp (disch := omega) only [go_sem, Int.natAbs_natCast, sg_false, limbs_val]; refine K7 _ ?_; clear K7; refine pwp_cond (b := true) (by rfl) (fun _ => ?_) (fun h => nomatch h); refine pwp_skip ?_; refine n_then ?_; refine pwp_block ?_; refine pwx_sr 0 [] (by rfl) fun _ K8 => ?_; refine rgnX_take 3 fun _ K9 => ?_; simp (disch := omega) only [go_sem]; refine ⟨_, c_swarfref01_parts _ _ (by omega) (by omega) (by omega), ?_⟩; refine K9 _ ?_; simp (disch := omega) only [go_sem]; refine K8 _ ?_; clear K9 K8; refine pwx_region 0 [] (by rfl) fun _ K10 => ?_; simp (disch := omega) only [go_sem]; refine K10 _ ?_; clear K10; refine n_block ?_; refine n_then ?_; refine ⟨_, ?hdec, ⟨Y, X % Y, ?hf0, ?hf1, ?hf2, rfl, ?heq⟩, ?hok⟩
      case heq => first | rfl | simp [St.cut, keep]
      case hf0 => exact hY
      case hf1 => exact Nat.le_trans (limbs_len_mono (Nat.mod_le X Y)) hX
      case hf2 => rw [← hG, Nat.gcd_comm X Y, Nat.gcd_rec Y X, Nat.gcd_comm]
      case hdec => exact Nat.mod_lt _ hY0
      case hok => refine ⟨rfl, ?_, ?_⟩ <;> first | rfl | (simp [keep, PV.lt, PE.lt, PC.lt, Box.lt, ↓lC_lt]; done) | simp [keep, PV.lt, PE.lt, PC.lt, Box.lt, ↓lC_lt, ↓intC_lt, ↓ratC_lt, ↓u32s_lt]
    · have hl0 := limbs_pos_len (Nat.ne_of_gt hY0); refine pwx_sr 0 [some 15, some 16, some 17, some 18, some 19, some 20, some 21, some 22, some 23, some 24, some 25, some 26, some 27] (by rfl) fun _ K11 => ?_; simp (disch := omega) only [go_sem, Int.natAbs_natCast, sg_false, limbs_val]; refine K11 _ ?_; clear K11; refine pwp_cond (b := true) (by rfl) (fun _ => ?_) (fun h => nomatch h); refine pwp_skip ?_; refine n_then ?_; refine pwp_block ?_; refine pwx_sr 0 [] (by rfl) fun _ K12 => ?_; refine rgnX_take 3 fun _ K13 => ?_; simp (disch := omega) only [go_sem]; refine ⟨_, c_swarfref01_parts _ _ (by omega) (by omega) (by omega), ?_⟩; refine K13 _ ?_; simp (disch := omega) only [go_sem]; refine K12 _ ?_; clear K13 K12; refine pwx_region 0 [] (by rfl) fun _ K14 => ?_; simp (disch := omega) only [go_sem]; refine K14 _ ?_; clear K14; refine n_block ?_; refine n_then ?_; refine ⟨_, ?hdec, ⟨Y, X % Y, ?hf0, ?hf1, ?hf2, rfl, ?heq⟩, ?hok⟩
      case heq => first | rfl | simp [St.cut, keep]
      case hf0 => exact hY
      case hf1 => exact Nat.le_trans (limbs_len_mono (Nat.mod_le X Y)) hX
      case hf2 => rw [← hG, Nat.gcd_comm X Y, Nat.gcd_rec Y X, Nat.gcd_comm]
      case hdec => exact Nat.mod_lt _ hY0
      case hok => refine ⟨rfl, ?_, ?_⟩ <;> first | rfl | (simp [keep, PV.lt, PE.lt, PC.lt, Box.lt, ↓lC_lt]; done) | simp [keep, PV.lt, PE.lt, PC.lt, Box.lt, ↓lC_lt, ↓intC_lt, ↓ratC_lt, ↓u32s_lt]
    · have hl0 := limbs_pos_len (Nat.ne_of_gt hY0); have hX18 := lt_2 hX2; have hY18 := lt_2 hY2; refine pwx_sr 0 [some 15, some 16, some 17, some 18, some 19, some 20, some 21, some 22, some 23, some 24, some 25, some 26, some 27] (by rfl) fun _ K15 => ?_; simp (disch := omega) only [go_sem, Int.natAbs_natCast, sg_false, limbs_val]; refine K15 _ ?_; clear K15; refine pwp_cond (b := false) (by rfl) (fun h => nomatch h) (fun _ => ?_); refine pwp_exit ?_; refine e_then ?_; refine e_then ?_; refine e_here ?_; refine n_then ?_; refine pwp_seq ?_; refine pwx_sr 0 [] (by rfl) fun _ K16 => ?_; simp (disch := omega) only [go_sem]; refine K16 _ ?_; clear K16; refine pwp_cond (b := false) (by rfl) (fun h => nomatch h) (fun _ => ?_); refine pwp_skip ?_; refine n_then ?_; refine pwx_sr 0 [] (by rfl) fun _ K17 => ?_; refine rgnX_take 2 fun _ K18 => ?_; simp (disch := omega) only [go_sem]; refine ⟨_, c_swarfref01_short _ (by omega), ?_⟩; refine K18 _ ?_; refine rgnX_take 2 fun _ K19 => ?_; simp (disch := omega) only [go_sem]; refine ⟨_, c_swarfref01_short _ (by omega), ?_⟩; refine K19 _ ?_; simp (disch := omega) only [go_sem]; refine K17 _ ?_; clear K19 K18 K17; refine pwp_seq ?_; refine pwp_block ?_; refine pwp_loopF (false :: false :: false :: false :: true :: false :: false :: false :: false :: true :: true :: false :: false :: false :: false :: false :: false :: false :: false :: false :: false :: false :: false :: false :: false :: false :: false :: false :: false :: false :: false :: false :: false :: false :: false :: false :: false :: false :: false :: false :: false :: false :: false :: false :: false :: false :: false :: false :: false :: false :: false :: false :: false :: false :: []) 3 (fun M s => ∃ u : Nat, ∃ v : Nat, (u < 1000000000000000000) ∧ (v < 1000000000000000000) ∧ (Nat.gcd u v = Nat.gcd x.natAbs y.natAbs) ∧ v = M ∧ s = { slots := .j :: .j :: .j :: .j :: .e (.c (.ptr 2 0)) :: .j :: .j :: .j :: .j :: .e (.c (.int .u64 (u : Int))) :: .e (.c (.int .u64 (v : Int))) :: .j :: .j :: .j :: .j :: .j :: .j :: .j :: .j :: .j :: .j :: .j :: .j :: .j :: .j :: .j :: .j :: .j :: .j :: .j :: .j :: .j :: .j :: .j :: .j :: .j :: .j :: .j :: .j :: .j :: .j :: .j :: .j :: .j :: .j :: .j :: .j :: .j :: .j :: .j :: .j :: .j :: .j :: .j :: [], st := [.live (intC x), .live (intC y), .live [.bool false, .nils]] }) (n := Y) rfl ?_ ?_ ?_
      · refine ⟨X, Y, ?_, ?_, ?_, rfl, ?_⟩
        · omega
        · omega
        · exact hG
        · first | rfl | simp [St.cut, keep]
      · refine ⟨rfl, ?_, ?_⟩ <;> first | rfl | (simp [keep, PV.lt, PE.lt, PC.lt, Box.lt, ↓lC_lt]; done) | simp [keep, PV.lt, PE.lt, PC.lt, Box.lt, ↓lC_lt, ↓intC_lt, ↓ratC_lt, ↓u32s_lt]
      · rintro _ _ ⟨u, v, hu1, hv1, hG1, rfl, rfl⟩
        refine pwp_seq ?_; refine pwx_sr 0 [] (by rfl) fun _ K20 => ?_; simp (disch := omega) only [go_sem]; refine K20 _ ?_; clear K20; refine pwp_cond (b := _) (by rfl) (fun hb6 => ?_) (fun hb6 => ?_)
        · replace hb6 := of_decide_eq_true hb6
          have hv0 : 0 < v := by omega
          refine pwp_skip ?_; refine n_then ?_; refine pwp_block ?_; refine pwx_draw Tryz.mixed 0 [] (by rfl) [] (by kernel_rfl) (by simp) fun _ K21 => ?_; simp (disch := omega) only [go_sem]; refine K21 _ ?_; clear K21; refine n_block ?_; refine n_then ?_; refine ⟨_, ?hdec, ⟨v, u % v, ?hf0, ?hf1, ?hf2, rfl, ?heq⟩, ?hok⟩
          case heq => first | rfl | simp [St.cut, keep]
          case hf0 => omega
          case hf1 => have := Nat.mod_lt u hv0; omega
          case hf2 => rw [← hG1, Nat.gcd_comm u v, Nat.gcd_rec v u, Nat.gcd_comm]
          case hdec => exact Nat.mod_lt _ hv0
          case hok => refine ⟨rfl, ?_, ?_⟩ <;> first | rfl | (simp [keep, PV.lt, PE.lt, PC.lt, Box.lt, ↓lC_lt]; done) | simp [keep, PV.lt, PE.lt, PC.lt, Box.lt, ↓lC_lt, ↓intC_lt, ↓ratC_lt, ↓u32s_lt]
        · replace hb6 := of_decide_eq_false hb6
          obtain rfl : v = 0 := by omega
          refine pwp_exit ?_; refine e_then ?_; refine e_then ?_; refine e_here ?_; refine n_then ?_; refine pwx_sr 0 [] (by rfl) fun _ K22 => ?_; refine rgnX_take 2 fun _ K23 => ?_; simp (disch := omega) only [go_sem, Int.natAbs_natCast, sg_false, limbs_val]; refine ⟨_, c_swarfref01_limbs _ (by omega), ?_⟩; refine K23 _ ?_; refine rgnX_take 1 fun _ K24 => ?_; simp (disch := omega) only [go_sem, Int.natAbs_natCast, sg_false, limbs_val]; refine ⟨_, c_swarfref01_signed _ _ (limbs_dig _) (Nat.le_trans (limbs_len (k := 3) (Nat.lt_trans hu1 (by decide))) (by omega)), ?_⟩; refine K24 _ ?_; simp (disch := omega) only [go_sem, Int.natAbs_natCast, sg_false, limbs_val]; refine K22 _ ?_; clear K24 K23 K22; refine pwp_ret ?_; refine ⟨Or.inr rfl, ?_⟩; simp (disch := omega) only [go_sem]; rw [← hG1, Nat.gcd_zero_right]
set_option maxHeartbeats 4000000 in
theorem c_swarfref01_Sqrt (z : Int) (hz : (limbs z.natAbs).length ≤ 900000) :
    Ret Tryz.prog 71 [.a (intC z)] (.t [.a (intC (sqrtI z)), .c (.int .i64 (if z < 0 then 7 else 0))]) := by
  refine ret_of_body (md := {}) Tryz.func71 (by kernel_rfl) rfl ?_; simp only [Tryz.f71, go_sem, Nat.reduceAdd, Nat.reduceSub, List.reduceReplicate]; refine pwx_sr 2 [] (by rfl) fun _ K1 => ?_; simp (disch := omega) only [go_sem]; refine K1 _ ?_; clear K1; refine pwp_seq ?_; refine pwx_sr 0 [] (by rfl) fun _ K2 => ?_; simp (disch := omega) only [go_sem, Int.natAbs_natCast, sg_false, nc_ediv, nc_ediv2, nc_tdiv2]; refine K2 _ ?_; clear K2; refine pwp_cond (b := _) (by rfl) (fun hb0 => ?_) (fun hb0 => ?_)
  · first | replace hb0 := of_decide_eq_true hb0 | skip
    refine pwx_sr 0 [] (by rfl) fun _ K3 => ?_; simp (disch := omega) only [go_sem]; refine K3 _ ?_; clear K3; refine pwp_ret ?_; refine r_then ?_; refine ⟨Or.inr rfl, ?_⟩; simp (disch := omega) only [go_sem]
    rw [sqrtI_neg hb0]; exact intC_zero
  · replace hb0 := of_decide_eq_false hb0; obtain ⟨n, rfl⟩ := Int.eq_ofNat_of_zero_le (show 0 ≤ z by omega); rw [Int.natAbs_natCast] at hz; refine pwp_skip ?_; refine n_then ?_; refine pwp_seq ?_; refine pwx_sr 0 [] (by rfl) fun _ K4 => ?_; simp (disch := omega) only [go_sem, Int.natAbs_natCast, sg_false, nc_ediv, nc_ediv2, nc_tdiv2]; refine K4 _ ?_; clear K4; refine pwp_cond (b := _) (by rfl) (fun hb1 => ?_) (fun hb1 => ?_)
    · replace hb1 := of_decide_eq_true hb1; obtain rfl : n = 0 := len_zero (by omega); refine pwx_sr 0 [] (by rfl) fun _ K5 => ?_; simp (disch := omega) only [go_sem]; refine K5 _ ?_; clear K5; refine pwp_ret ?_; refine r_then ?_; refine ⟨Or.inr rfl, ?_⟩; simp (disch := omega) only [go_sem]
      rw [sqrtI_nat]; exact ⟨intC_zero, rfl⟩
    · replace hb1 := of_decide_eq_false hb1; have hn0 : 0 < n := len_pos (by omega); refine pwp_skip ?_; refine n_then ?_; refine pwx_sr 4 [] (by rfl) fun _ K6 => ?_; simp (disch := omega) only [go_sem, Int.natAbs_natCast, sg_false, nc_tdiv2, le_F, u32s_cons1, u32s_append, List.take_replicate, Nat.min_self]; intro c hc; obtain ⟨hv0, hv1, hv2⟩ := sqrt_val0 (((limbs n).length + 1) / 2) (c - ((((limbs n).length + 1) / 2) + 1)); refine K6 _ ?_; clear K6; refine pwp_frz [4] rfl ?_; refine pwp_imm ?_; have hx0 := sqrt_x0 (((limbs n).length + 1) / 2) (c - ((((limbs n).length + 1) / 2) + 1)); simp (disch := omega) only [go_sem, PV.imm, Box.imm, hx0, ic_u32s]; refine pwx_sr 1 [] (by rfl) fun _ K7 => ?_; refine rgnX_take 1 fun _ K8 => ?_; simp (disch := omega) only [go_sem]; refine ⟨_, c_swarfref01_FromInt64 _ (by omega) (by omega), ?_⟩; refine K8 _ ?_; simp (disch := omega) only [go_sem]; refine K7 _ ?_; clear K8 K7; refine pwp_block ?_; refine pwp_loopF (false :: true :: true :: true :: true :: true :: false :: false :: false :: false :: false :: false :: false :: false :: false :: false :: false :: false :: false :: false :: false :: false :: false :: false :: false :: false :: false :: false :: false :: false :: false :: false :: false :: false :: false :: false :: false :: false :: false :: false :: false :: false :: false :: false :: false :: false :: false :: false :: false :: false :: false :: false :: []) 7 (fun M s => ∃ X : Nat, (0 < X) ∧ (X ≤ BS ^ (((limbs n).length + 1) / 2)) ∧ (n < (X + 1) * (X + 1)) ∧ X = M ∧ s = { slots := .j :: .e (.c (.ptr 0 0)) :: .e (.c (.ptr 1 0)) :: .e (.c (.int .i64 0)) :: .e (.c (.ptr 5 0)) :: .e (.c (.ptr 6 0)) :: .j :: .j :: .j :: .j :: .j :: .j :: .j :: .j :: .j :: .j :: .j :: .j :: .j :: .j :: .j :: .j :: .j :: .j :: .j :: .j :: .j :: .j :: .j :: .j :: .j :: .j :: .j :: .j :: .j :: .j :: .j :: .j :: .j :: .j :: .j :: .j :: .j :: .j :: .j :: .j :: .j :: .j :: .j :: .j :: .j :: .j :: [], st := [.live (intC (n : Int)), .live [.bool false, .nils], .live (u32s (List.replicate (((limbs n).length + 1) / 2) 0)), .gone, .frz (u32s (List.replicate (((limbs n).length + 1) / 2) 0 ++ 1 :: List.replicate (c - ((((limbs n).length + 1) / 2) + 1)) 0)), .live (intC (X : Int)), .live (intC 2)] }) (n := BS ^ (((limbs n).length + 1) / 2)) rfl ?_ ?_ ?_
      · refine ⟨BS ^ (((limbs n).length + 1) / 2), ?_, ?_, ?_, rfl, ?_⟩
        · exact BS_pos _
        · exact Nat.le_refl _
        · exact sqrt_start
        · first | rfl | simp [St.cut, keep]
      · refine ⟨rfl, ?_, ?_⟩ <;> first | rfl | (simp [keep, PV.lt, PE.lt, PC.lt, Box.lt, ↓lC_lt]; done) | simp [keep, PV.lt, PE.lt, PC.lt, Box.lt, ↓lC_lt, ↓intC_lt, ↓ratC_lt, ↓u32s_lt]
      · rintro _ _ ⟨X, hX0, hXB, hXn, rfl, rfl⟩
        obtain ⟨hl1, hl2, hl3⟩ := sqrt_len hn0 hXB; have hnw := newton hX0 hXn hn0; have hl4 := limbs_len_mono (Nat.div_le_self (X + n / X) 2); refine pwp_block ?_; refine pwx_sr 2 [] (by rfl) fun _ K9 => ?_; refine rgnX_take 3 fun _ K10 => ?_; simp (disch := omega) only [go_sem, Int.natAbs_natCast, sg_false, nc_ediv, nc_ediv2, nc_tdiv2]; refine ⟨_, c_swarfref01_DivMod _ _ (by simp only [Int.natAbs_natCast]; omega) (by simp only [Int.natAbs_natCast]; omega) (by omega), ?_⟩; refine K10 _ ?_; simp (disch := omega) only [go_sem, Int.natAbs_natCast, sg_false, nc_ediv, nc_ediv2, nc_tdiv2]; refine K9 _ ?_; clear K10 K9; refine pwx_sd Tryz.mixed 2 [] (by rfl) [] (by kernel_rfl) (by simp) fun _ K11 => ?_; refine rgnX_take 3 fun _ K12 => ?_; simp (disch := omega) only [go_sem, Int.natAbs_natCast, sg_false, nc_ediv, nc_ediv2, nc_tdiv2]; refine ⟨_, c_swarfref01_Add _ _ (by simp only [Int.natAbs_natCast]; omega) (by simp only [Int.natAbs_natCast]; omega), ?_⟩; refine K12 _ ?_; refine rgnX_take 2 fun _ K13 => ?_; simp (disch := omega) only [go_sem, Int.natAbs_natCast, sg_false, nc_ediv, nc_ediv2, nc_tdiv2]; refine ⟨_, c_swarfref01_DivMod _ 2 (by simp only [Int.natAbs_natCast]; omega) (by exact len_lit (k := 3) (by decide)) (by omega), ?_⟩; refine K13 _ ?_; simp (disch := omega) only [go_sem, Int.natAbs_natCast, sg_false, nc_ediv, nc_ediv2, nc_tdiv2]; refine K11 _ ?_; clear K13 K12 K11; refine pwp_seq ?_; refine pwx_sr 0 [] (by rfl) fun _ K14 => ?_; refine rgnX_take 3 fun _ K15 => ?_; simp (disch := omega) only [go_sem, Int.natAbs_natCast, sg_false, nc_ediv, nc_ediv2, nc_tdiv2]; refine ⟨_, c_swarfref01_Cmp _ _ (by simp only [Int.natAbs_natCast]; omega) (by simp only [Int.natAbs_natCast]; omega), ?_⟩; refine K15 _ ?_; simp (disch := omega) only [go_sem, Int.natAbs_natCast, sg_false, nc_ediv, nc_ediv2, nc_tdiv2]; refine K14 _ ?_; clear K15 K14; refine pwp_cond (b := _) (by rfl) (fun hb2 => ?_) (fun hb2 => ?_)
        · replace hb2 := of_decide_eq_true hb2; have hXs := hnw.1 (by omega); refine pwx_sr 0 [] (by rfl) fun _ K16 => ?_; simp (disch := omega) only [go_sem, Int.natAbs_natCast, sg_false, nc_ediv, nc_ediv2, nc_tdiv2]; refine K16 _ ?_; clear K16; refine pwp_ret ?_; refine r_then ?_; refine r_block ?_; refine r_then ?_; refine r_block ?_; refine ⟨Or.inr rfl, ?_⟩; simp (disch := omega) only [go_sem]
          rw [sqrtI_nat, hXs]; exact ⟨rfl, if_neg (by omega)⟩
        · replace hb2 := of_decide_eq_false hb2; refine pwp_skip ?_; refine n_then ?_; refine pwx_region 0 [] (by rfl) fun _ K17 => ?_; simp (disch := omega) only [go_sem, Int.natAbs_natCast, sg_false, nc_ediv, nc_ediv2, nc_tdiv2]; refine K17 _ ?_; clear K17; refine n_block ?_; refine n_then ?_; refine ⟨_, ?hdec, ⟨(X + n / X) / 2, ?hf0, ?hf1, ?hf2, rfl, ?heq⟩, ?hok⟩
          case heq => first | rfl | simp [St.cut, keep]
          case hf0 => exact hnw.2.1
          case hf1 => omega
          case hf2 => exact hnw.2.2
          case hdec => omega
          case hok => refine ⟨rfl, ?_, ?_⟩ <;> first | rfl | (simp [keep, PV.lt, PE.lt, PC.lt, Box.lt, ↓lC_lt]; done) | simp [keep, PV.lt, PE.lt, PC.lt, Box.lt, ↓lC_lt, ↓intC_lt, ↓ratC_lt, ↓u32s_lt]

end Go.Proofs.YtdojhoegildiaaaGreat

set_option linter.unusedSimpArgs false
set_option linter.unusedVariables false
set_option maxRecDepth 20000
namespace Go.Proofs.YtdojhoegildiaaaGreat
open Go Go.PL
set_option maxHeartbeats 4000000 in
theorem c_swarfref01_Valid (neg : Bool) (l : List Nat) (hl : l.length ≤ 4000000) :
    Ret Tryz.prog 62 [.a [.bool neg, lC l]] (.e (.c (.bool (vldB neg l)))) := by
  refine ret_of_body (md := {}) Tryz.func62 (by kernel_rfl) rfl ?_; simp only [Tryz.f62, go_sem, Nat.reduceAdd, Nat.reduceSub, List.reduceReplicate]; refine pwx_sr 1 [] (by rfl) fun _ K1 => ?_; simp (disch := omega) only [go_sem]; refine K1 _ ?_; clear K1; refine pwp_seq ?_; refine pwx_sr 0 [] (by rfl) fun _ K2 => ?_; simp (disch := omega) only [go_sem]; refine K2 _ ?_; clear K2; refine pwp_block ?_; refine pwp_loopF (false :: true :: false :: true :: false :: false :: false :: false :: false :: false :: false :: false :: false :: false :: false :: false :: false :: false :: false :: false :: false :: false :: false :: false :: false :: false :: false :: false :: false :: false :: false :: false :: false :: false :: false :: false :: []) 1 (fun M s => ∃ i : Nat, (i ≤ l.length) ∧ (∀ j, j < i → dg l j < 1000000000) ∧ l.length - i = M ∧ s = { slots := .j :: .e (.c (.ptr 0 0)) :: .j :: .e (.c (.int .i64 (i : Int))) :: .j :: .j :: .j :: .j :: .j :: .j :: .j :: .j :: .j :: .j :: .j :: .j :: .j :: .j :: .j :: .j :: .j :: .j :: .j :: .j :: .j :: .j :: .j :: .j :: .j :: .j :: .j :: .j :: .j :: .j :: .j :: .j :: [], st := [.live [.bool neg, lC l]] }) (n := l.length - 0) rfl ?_ ?_ ?_
  · refine ⟨0, ?_, ?_, rfl, ?_⟩
    · omega
    · intro j hj; omega
    · first | rfl | simp [St.cut, keep]
  · refine ⟨rfl, ?_, ?_⟩ <;> first | rfl | (simp [keep, PV.lt, PE.lt, PC.lt, Box.lt, ↓lC_lt]; done) | simp [keep, PV.lt, PE.lt, PC.lt, Box.lt, ↓lC_lt, ↓intC_lt, ↓ratC_lt, ↓u32s_lt]
  · rintro _ _ ⟨i, hi, hv, rfl, rfl⟩
    refine pwp_seq ?_; refine pwx_sr 0 [] (by rfl) fun _ K3 => ?_; simp (disch := omega) only [go_sem]; refine K3 _ ?_; clear K3; refine pwp_cond (b := _) (by rfl) (fun hb0 => ?_) (fun hb0 => ?_)
    · first | replace hb0 := of_decide_eq_true hb0 | skip
      refine pwp_skip ?_; refine n_then ?_; refine pwp_seq ?_; refine pwp_block ?_; refine pwx_sr 0 [] (by rfl) fun _ K4 => ?_; simp (disch := omega) only [go_sem]; refine K4 _ ?_; clear K4; refine pwp_cond (b := _) (by rfl) (fun hb1 => ?_) (fun hb1 => ?_)
      · first | replace hb1 := of_decide_eq_true hb1 | skip
        refine pwx_sr 0 [] (by rfl) fun _ K5 => ?_; simp (disch := omega) only [go_sem]; refine K5 _ ?_; clear K5; refine pwp_ret ?_; refine r_block ?_; refine r_then ?_; refine r_then ?_; refine r_block ?_; refine r_then ?_; refine ⟨Or.inr rfl, ?_⟩; simp (disch := omega) only [go_sem]; rw [vld_bad (i := i) (by omega) (by omega)]
      · first | replace hb1 := of_decide_eq_false hb1 | skip
        refine pwp_skip ?_; refine n_block ?_; refine n_then ?_; refine pwx_region 0 [] (by rfl) fun _ K6 => ?_; simp (disch := omega) only [go_sem]; refine K6 _ ?_; clear K6; refine n_then ?_; refine ⟨_, ?hdec, ⟨i + 1, ?hf0, ?hf1, rfl, ?heq⟩, ?hok⟩
        case heq => first | rfl | simp [St.cut, keep]
        case hf0 => omega
        case hf1 => exact vld_next hv (by omega)
        case hdec => omega
        case hok => refine ⟨rfl, ?_, ?_⟩ <;> first | rfl | (simp [keep, PV.lt, PE.lt, PC.lt, Box.lt, ↓lC_lt]; done) | simp [keep, PV.lt, PE.lt, PC.lt, Box.lt, ↓lC_lt, ↓intC_lt, ↓ratC_lt, ↓u32s_lt]
    · replace hb0 := of_decide_eq_false hb0
      obtain rfl : i = l.length := by omega
      have hd := (vld_dig hv).1; have hln := trim_len_le hd; refine pwp_exit ?_; refine e_then ?_; refine e_then ?_; refine e_here ?_; refine n_then ?_
      rcases Nat.decEq (limbs (val l)).length l.length with hlen | hlen <;> cases neg
      · refine pwx_sd Tryz.mixed 0 [some 17, some 18, some 19, some 20, some 21, some 22, some 23, some 24, some 25, some 26, some 27, some 28, some 29, some 30, some 31, some 32, some 33, some 34, some 35, some 2] (by rfl) [] (by kernel_rfl) (by simp) fun _ K7 => ?_; refine rgnX_take 3 fun _ K8 => ?_; simp (disch := omega) only [go_sem, hlen]; refine ⟨_, c_swarfref01_trim _ hd (by omega), ?_⟩; refine K8 _ ?_; simp (disch := omega) only [go_sem, hlen]; refine K7 _ ?_; clear K8 K7; refine pwp_ret ?_; refine ⟨Or.inr rfl, ?_⟩; simp (disch := omega) only [go_sem]; rw [vld_nt hv hlen]
      · refine pwx_sd Tryz.mixed 0 [some 17, some 18, some 19, some 20, some 21, some 22, some 23, some 24, some 25, some 26, some 27, some 28, some 29, some 30, some 31, some 32, some 33, some 34, some 35, some 2] (by rfl) [] (by kernel_rfl) (by simp) fun _ K9 => ?_; refine rgnX_take 3 fun _ K10 => ?_; simp (disch := omega) only [go_sem, hlen]; refine ⟨_, c_swarfref01_trim _ hd (by omega), ?_⟩; refine K10 _ ?_; simp (disch := omega) only [go_sem, hlen]; refine K9 _ ?_; clear K10 K9; refine pwp_ret ?_; refine ⟨Or.inr rfl, ?_⟩; simp (disch := omega) only [go_sem]; rw [vld_nt hv hlen]
      · refine pwx_sd Tryz.mixed 0 [some 17, some 18, some 19, some 20, some 21, some 22, some 23, some 24, some 25, some 26, some 27, some 28, some 29, some 30, some 31, some 32, some 33, some 34, some 35, some 2] (by rfl) [] (by kernel_rfl) (by simp) fun _ K11 => ?_; refine rgnX_take 3 fun _ K12 => ?_; simp (disch := omega) only [go_sem, hlen]; refine ⟨_, c_swarfref01_trim _ hd (by omega), ?_⟩; refine K12 _ ?_; simp (disch := omega) only [go_sem, hlen]; refine K11 _ ?_; clear K12 K11; refine pwp_ret ?_; refine ⟨Or.inr rfl, ?_⟩; simp (disch := omega) only [go_sem]
        rw [vld_t hv hlen]; rfl
      · refine pwx_sd Tryz.mixed 0 [some 17, some 18, some 19, some 20, some 21, some 22, some 23, some 24, some 25, some 26, some 27, some 28, some 29, some 30, some 31, some 32, some 33, some 34, some 35, some 2] (by rfl) [] (by kernel_rfl) (by simp) fun _ K13 => ?_; refine rgnX_take 3 fun _ K14 => ?_; simp (disch := omega) only [go_sem, hlen]; refine ⟨_, c_swarfref01_trim _ hd (by omega), ?_⟩; refine K14 _ ?_; simp (disch := omega) only [go_sem, hlen]; refine K13 _ ?_; clear K14 K13; refine pwp_ret ?_; refine ⟨Or.inr rfl, ?_⟩; simp (disch := omega) only [go_sem]
        rw [vld_t hv hlen]; rfl

end Go.Proofs.YtdojhoegildiaaaGreat
