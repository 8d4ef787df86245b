/- The walks of limbs, first part. Conditions: none.
   The walks of limbs, second part. Conditions: none.
   Integers in the walks: sizes in limbs, reading of an integer's cells, and what the signed operations come to. Conditions: each lemma's own.
   The walks of integers, first part. Conditions: none.
   Integers in the walks, second part: machine words, long division. Conditions: each lemma's own.
   The walks of integers, second part. Conditions: none.
   Long division: what the loops keep. Conditions: each lemma's own.
   The walks of limbs, third part: long division. Conditions: none.
   Long division: the estimate of a digit, the outer loop. Conditions: each lemma's own.
   Long division: the results. Conditions: each lemma's own.
   The walks of limbs, fourth part: long division. Conditions: none.
   Integers in the walks, third part: division, greatest common divisors, square roots. Conditions: each lemma's own. -/
import Derived.Test.YtdojhoegildiaaaGreatQ2
set_option linter.unusedVariables false
set_option linter.unusedSimpArgs false
set_option linter.unusedSimpArgs false
set_option linter.unusedVariables false
set_option maxRecDepth 20000
namespace Go.Proofs.YtdojhoegildiaaaGreat
open Go Go.PL
set_option maxHeartbeats 4000000 in
theorem c_integer_trim (l : List Nat) (hdl : Dig l) (hll : l.length ≤ 4000000) :
    Ret Tryz.prog 139 [.c (lC l)] (.e (.c (lC (limbs (val l))))) := by
  refine ret_of_body (md := {}) Tryz.func139 (by kernel_rfl) rfl ?_; simp only [Tryz.f139, go_sem, Nat.reduceAdd, Nat.reduceSub, List.reduceReplicate]; refine pwx_sr 0 [] (by rfl) fun _ K1 => ?_; simp (disch := omega) only [go_sem]; refine K1 _ ?_; clear K1; refine pwp_seq ?_; refine pwp_block ?_; refine pwp_loopF (true :: false :: false :: false :: false :: false :: false :: false :: false :: false :: false :: false :: false :: false :: false :: false :: false :: false :: false :: false :: false :: []) 0 (fun M s => ∃ n : Nat, (n ≤ l.length) ∧ (vt l n = val l) ∧ n = M ∧ s = { slots := .e (.c (lC (l.take n))) :: .j :: .j :: .j :: .j :: .j :: .j :: .j :: .j :: .j :: .j :: .j :: .j :: .j :: .j :: .j :: .j :: .j :: .j :: .j :: .j :: [], st := [] }) (n := l.length) rfl ?_ ?_ ?_
  · refine ⟨l.length, ?_, ?_, rfl, ?_⟩
    · exact Nat.le_refl _
    · exact vt_all (Nat.le_refl _)
    · first | rfl | simp [St.cut, keep]
  · refine ⟨rfl, ?_, ?_⟩ <;> first | rfl | (simp [keep, PV.lt, PE.lt, PC.lt, Box.lt, ↓lC_lt]; done) | simp [keep, PV.lt, PE.lt, PC.lt, Box.lt, ↓lC_lt, ↓intC_lt, ↓ratC_lt, ↓u32s_lt]
  · rintro _ _ ⟨n, h1, h2, rfl, rfl⟩
    have ht : (l.take n).length = n := by simp; omega
    refine pwp_seq ?_; by_cases hn : n = 0
    · refine pwx_sr 0 [some 3, some 4, some 5, some 6, some 7, some 8, some 9, some 10, some 11, some 12, some 13, some 14] (by rfl) fun _ K2 => ?_; simp (disch := omega) only [go_sem, ht]; refine K2 _ ?_; clear K2; refine pwp_cond (b := false) (by rfl) (fun h => nomatch h) (fun _ => ?_); refine pwp_exit ?_; refine e_then ?_; refine e_then ?_; refine e_here ?_; refine n_then ?_; refine pwx_sr 0 [] (by rfl) fun _ K3 => ?_; simp (disch := omega) only [go_sem]; refine K3 _ ?_; clear K3; refine pwp_ret ?_; refine ⟨Or.inr rfl, ?_⟩; simp (disch := omega) only [go_sem]; rw [trim_done hdl h1 h2 (.inl hn)]
    · refine pwx_sr 0 [some 3, some 4, some 5, some 6, some 7, some 8, some 9, some 10, some 11, some 12, some 13, some 14] (by rfl) fun _ K4 => ?_; simp (disch := omega) only [go_sem, ht]; refine K4 _ ?_; clear K4; refine pwp_cond (b := _) (by rfl) (fun hb1 => ?_) (fun hb1 => ?_)
      · have hz : dg l (n - 1) = 0 := by simpa [dg_take (show n - 1 < n by omega)] using hb1
        refine pwp_skip ?_; refine n_then ?_; refine pwp_block ?_; refine pwx_region 0 [] (by rfl) fun _ K5 => ?_; simp (disch := omega) only [go_sem, ht, List.take_take, Nat.min_eq_left (Nat.sub_le n 1)]; refine K5 _ ?_; clear K5; refine n_block ?_; refine n_then ?_; refine ⟨_, ?hdec, ⟨n - 1, ?hf0, ?hf1, rfl, ?heq⟩, ?hok⟩
        case heq => first | rfl | simp [St.cut, keep]
        case hf0 => omega
        case hf1 => exact trim_step h2 (by omega) hz
        case hdec => omega
        case hok => refine ⟨rfl, ?_, ?_⟩ <;> first | rfl | (simp [keep, PV.lt, PE.lt, PC.lt, Box.lt, ↓lC_lt]; done) | simp [keep, PV.lt, PE.lt, PC.lt, Box.lt, ↓lC_lt, ↓intC_lt, ↓ratC_lt, ↓u32s_lt]
      · have hz : dg l (n - 1) ≠ 0 := by simpa [dg_take (show n - 1 < n by omega)] using hb1
        refine pwp_exit ?_; refine e_then ?_; refine e_then ?_; refine e_here ?_; refine n_then ?_; refine pwx_sr 0 [] (by rfl) fun _ K6 => ?_; simp (disch := omega) only [go_sem]; refine K6 _ ?_; clear K6; refine pwp_ret ?_; refine ⟨Or.inr rfl, ?_⟩; simp (disch := omega) only [go_sem]; rw [trim_done hdl h1 h2 (.inr hz)]
set_option maxHeartbeats 4000000 in
theorem c_integer_signed (neg : Bool) (l : List Nat) (hdl : Dig l) (hll : l.length ≤ 4000000) :
    Ret Tryz.prog 121 [.c (.bool neg), .c (lC l)] (.e (.a (intC (sg neg (val l))))) := by
  refine ret_of_body (md := {}) Tryz.func121 (by kernel_rfl) rfl ?_; simp only [Tryz.f121, go_sem, Nat.reduceAdd, Nat.reduceSub, List.reduceReplicate]; refine pwx_sr 1 [] (by rfl) fun _ K1 => ?_; simp (disch := omega) only [go_sem]; refine K1 _ ?_; clear K1; refine pwx_sr 0 [] (by rfl) fun _ K2 => ?_; simp (disch := omega) only [go_sem]; refine K2 _ ?_; clear K2; refine pwp_seq ?_; refine pwp_block ?_; refine pwp_loopF (true :: true :: false :: false :: true :: true :: false :: false :: false :: false :: false :: false :: false :: false :: false :: false :: false :: false :: false :: false :: false :: false :: false :: false :: false :: false :: false :: false :: false :: false :: []) 1 (fun M s => ∃ n : Nat, (n ≤ l.length) ∧ (vt l n = val l) ∧ n = M ∧ s = { slots := .e (.c (.bool neg)) :: .e (.c (lC l)) :: .j :: .j :: .e (.c (.ptr 0 0)) :: .e (.c (.int .i64 (n : Int))) :: .j :: .j :: .j :: .j :: .j :: .j :: .j :: .j :: .j :: .j :: .j :: .j :: .j :: .j :: .j :: .j :: .j :: .j :: .j :: .j :: .j :: .j :: .j :: .j :: [], st := [.live [.bool false, .nils]] }) (n := l.length) rfl ?_ ?_ ?_
  · refine ⟨l.length, ?_, ?_, rfl, ?_⟩
    · exact Nat.le_refl _
    · exact vt_all (Nat.le_refl _)
    · first | rfl | simp [St.cut, keep]
  · refine ⟨rfl, ?_, ?_⟩ <;> first | rfl | (simp [keep, PV.lt, PE.lt, PC.lt, Box.lt, ↓lC_lt]; done) | simp [keep, PV.lt, PE.lt, PC.lt, Box.lt, ↓lC_lt, ↓intC_lt, ↓ratC_lt, ↓u32s_lt]
  · rintro _ _ ⟨n, h1, h2, rfl, rfl⟩
    refine pwp_seq ?_; by_cases hn : n = 0
    · refine pwx_sr 0 [some 8, some 9, some 10, some 11, some 12, some 13, some 14, some 15, some 16, some 17] (by rfl) fun _ K3 => ?_; simp (disch := omega) only [go_sem]; refine K3 _ ?_; clear K3; refine pwp_cond (b := false) (by rfl) (fun h => nomatch h) (fun _ => ?_); refine pwp_exit ?_; refine e_then ?_; refine e_then ?_; refine e_here ?_; refine n_then ?_
      cases neg
      · refine pwx_sr 0 [some 20, some 21, some 22, some 23, some 24, some 25, some 26, some 27, some 28, some 29, none] (by rfl) fun _ K4 => ?_; simp (disch := omega) only [go_sem]; refine K4 _ ?_; clear K4; refine pwp_ret ?_; refine ⟨Or.inr rfl, ?_⟩; simp (disch := omega) only [go_sem]; rw [signed_pos (trim_done hdl h1 h2 (.inl hn))]
      · refine pwx_sr 0 [some 20, some 21, some 22, some 23, some 24, some 25, some 26, some 27, some 28, some 29, none] (by rfl) fun _ K5 => ?_; simp (disch := omega) only [go_sem]; refine K5 _ ?_; clear K5; refine pwp_ret ?_; refine ⟨Or.inr rfl, ?_⟩; simp (disch := omega) only [go_sem]; exact (signed_neg' h1 (trim_done hdl h1 h2 (.inl hn)) (by simp; omega)).symm
    · refine pwx_sr 0 [some 8, some 9, some 10, some 11, some 12, some 13, some 14, some 15, some 16, some 17] (by rfl) fun _ K6 => ?_; simp (disch := omega) only [go_sem]; refine K6 _ ?_; clear K6; refine pwp_cond (b := _) (by rfl) (fun hb1 => ?_) (fun hb1 => ?_)
      · have hz : dg l (n - 1) = 0 := by simpa using hb1
        refine pwp_skip ?_; refine n_then ?_; refine pwp_block ?_; refine pwx_region 0 [] (by rfl) fun _ K7 => ?_; simp (disch := omega) only [go_sem]; refine K7 _ ?_; clear K7; refine n_block ?_; refine n_then ?_; refine ⟨_, ?hdec, ⟨n - 1, ?hf0, ?hf1, rfl, ?heq⟩, ?hok⟩
        case heq => first | rfl | simp [St.cut, keep]
        case hf0 => omega
        case hf1 => exact trim_step h2 (by omega) hz
        case hdec => omega
        case hok => refine ⟨rfl, ?_, ?_⟩ <;> first | rfl | (simp [keep, PV.lt, PE.lt, PC.lt, Box.lt, ↓lC_lt]; done) | simp [keep, PV.lt, PE.lt, PC.lt, Box.lt, ↓lC_lt, ↓intC_lt, ↓ratC_lt, ↓u32s_lt]
      · have hz : dg l (n - 1) ≠ 0 := by simpa using hb1
        refine pwp_exit ?_; refine e_then ?_; refine e_then ?_; refine e_here ?_; refine n_then ?_
        cases neg
        · refine pwx_sr 0 [some 20, some 21, some 22, some 23, some 24, some 25, some 26, some 27, some 28, some 29, none] (by rfl) fun _ K8 => ?_; simp (disch := omega) only [go_sem]; refine K8 _ ?_; clear K8; refine pwp_ret ?_; refine ⟨Or.inr rfl, ?_⟩; simp (disch := omega) only [go_sem]; rw [signed_pos (trim_done hdl h1 h2 (.inr hz))]
        · refine pwx_sr 0 [some 20, some 21, some 22, some 23, some 24, some 25, some 26, some 27, some 28, some 29, none] (by rfl) fun _ K9 => ?_; simp (disch := omega) only [go_sem]; refine K9 _ ?_; clear K9; refine pwp_ret ?_; refine ⟨Or.inr rfl, ?_⟩; simp (disch := omega) only [go_sem]; exact (signed_neg' h1 (trim_done hdl h1 h2 (.inr hz)) (by simp; omega)).symm
set_option maxHeartbeats 4000000 in
theorem c_integer_compare (a : List Nat) (hda : Dig a) (hla : a.length ≤ 4000000) (b : List Nat) (hdb : Dig b) (hlb : b.length ≤ 4000000) :
    Ret Tryz.prog 117 [.c (lC a), .c (lC b)] (.e (.c (.int .i64 (cmpN (val a) (val b))))) := by
  refine ret_of_body (md := {}) Tryz.func117 (by kernel_rfl) rfl ?_; simp only [Tryz.f117, go_sem, Nat.reduceAdd, Nat.reduceSub, List.reduceReplicate]; refine pwx_sr 0 [] (by rfl) fun _ K1 => ?_; simp (disch := omega) only [go_sem]; refine K1 _ ?_; clear K1; refine pwx_sr 0 [] (by rfl) fun _ K2 => ?_; refine rgnX_take 2 fun _ K3 => ?_; simp (disch := omega) only [go_sem]; refine ⟨_, c_integer_trim _ (by first | assumption | exact limbs_dig _) (by omega), ?_⟩; refine K3 _ ?_; refine rgnX_take 2 fun _ K4 => ?_; simp (disch := omega) only [go_sem]; refine ⟨_, c_integer_trim _ (by first | assumption | exact limbs_dig _) (by omega), ?_⟩; refine K4 _ ?_; simp (disch := omega) only [go_sem]; refine K2 _ ?_; clear K4 K3 K2; refine pwp_seq ?_; obtain ⟨A, hA⟩ : ∃ A, A = limbs (val a) := ⟨_, rfl⟩; obtain ⟨B, hB⟩ : ∃ B, B = limbs (val b) := ⟨_, rfl⟩; have hdA : Dig A := hA ▸ limbs_dig _; have hdB : Dig B := hB ▸ limbs_dig _
  have hvA : val A = val a := by rw [hA, limbs_val]
  have hvB : val B = val b := by rw [hB, limbs_val]
  have hlA : A.length ≤ 4000000 := by rw [hA]; exact Nat.le_trans (limbs_len (val_lt hda)) hla
  have hlB : B.length ≤ 4000000 := by rw [hB]; exact Nat.le_trans (limbs_len (val_lt hdb)) hlb
  rw [← hA, ← hB]; rw [← hvA, ← hvB]; refine pwx_sr 0 [] (by rfl) fun _ K5 => ?_; simp (disch := omega) only [go_sem]; refine K5 _ ?_; clear K5; refine pwp_cond (b := _) (by rfl) (fun hb0 => ?_) (fun hb0 => ?_)
  · have hne : A.length ≠ B.length := by simp at hb0; omega
    refine pwp_seq ?_; refine pwx_sr 0 [] (by rfl) fun _ K6 => ?_; simp (disch := omega) only [go_sem]; refine K6 _ ?_; clear K6; refine pwp_cond (b := _) (by rfl) (fun hb1 => ?_) (fun hb1 => ?_)
    · have hlt : A.length < B.length := by simpa using hb1
      refine pwx_sr 0 [] (by rfl) fun _ K7 => ?_; simp (disch := omega) only [go_sem]; refine K7 _ ?_; clear K7; refine pwp_ret ?_; refine r_then ?_; refine r_then ?_; refine ⟨Or.inr rfl, ?_⟩; simp (disch := omega) only [go_sem]; rw [cmpN_lt (by rw [hvA, hvB]; exact limbs_lt_len (by rw [← hA, ← hB]; exact hlt))]
    · have hlt : ¬ A.length < B.length := by simpa using hb1
      refine pwp_skip ?_; refine n_then ?_; refine pwx_sr 0 [] (by rfl) fun _ K8 => ?_; simp (disch := omega) only [go_sem]; refine K8 _ ?_; clear K8; refine pwp_ret ?_; refine r_then ?_; refine ⟨Or.inr rfl, ?_⟩; simp (disch := omega) only [go_sem]; rw [cmpN_gt (by rw [hvA, hvB]; exact limbs_lt_len (by rw [← hA, ← hB]; omega))]
  · have hlen : A.length = B.length := by simp at hb0; omega
    refine pwp_skip ?_; refine n_then ?_; refine pwp_seq ?_; refine pwx_sr 0 [] (by rfl) fun _ K9 => ?_; simp (disch := omega) only [go_sem]; refine K9 _ ?_; clear K9; refine pwp_block ?_; refine pwp_loopF (true :: true :: false :: false :: false :: true :: false :: false :: false :: false :: false :: false :: false :: false :: false :: false :: false :: false :: false :: false :: false :: false :: false :: false :: false :: false :: false :: false :: false :: false :: false :: false :: false :: false :: false :: false :: false :: false :: false :: false :: false :: false :: false :: false :: false :: []) 0 (fun M s => ∃ k : Nat, (k ≤ A.length) ∧ (val A + vt B k = val B + vt A k) ∧ k = M ∧ s = { slots := .e (.c (lC A)) :: .e (.c (lC B)) :: .j :: .j :: .j :: .e (.c (.int .i64 ((k : Int) - 1))) :: .j :: .j :: .j :: .j :: .j :: .j :: .j :: .j :: .j :: .j :: .j :: .j :: .j :: .j :: .j :: .j :: .j :: .j :: .j :: .j :: .j :: .j :: .j :: .j :: .j :: .j :: .j :: .j :: .j :: .j :: .j :: .j :: .j :: .j :: .j :: .j :: .j :: .j :: .j :: [], st := [] }) (n := A.length) rfl ?_ ?_ ?_
    · refine ⟨A.length, ?_, ?_, rfl, ?_⟩
      · exact Nat.le_refl _
      · rw [vt_all (by omega), vt_all (Nat.le_refl _)]; omega
      · first | rfl | simp [St.cut, keep]
    · refine ⟨rfl, ?_, ?_⟩ <;> first | rfl | (simp [keep, PV.lt, PE.lt, PC.lt, Box.lt, ↓lC_lt]; done) | simp [keep, PV.lt, PE.lt, PC.lt, Box.lt, ↓lC_lt, ↓intC_lt, ↓ratC_lt, ↓u32s_lt]
    · rintro _ _ ⟨k, h1, h2, rfl, rfl⟩
      refine pwp_seq ?_; refine pwx_sr 0 [] (by rfl) fun _ K10 => ?_; simp (disch := omega) only [go_sem]; refine K10 _ ?_; clear K10; refine pwp_cond (b := _) (by rfl) (fun hb2 => ?_) (fun hb2 => ?_)
      · have hk : 0 < k := by simp at hb2; omega
        obtain ⟨k, rfl⟩ : ∃ j, k = j + 1 := ⟨k - 1, by omega⟩; refine pwp_skip ?_; refine n_then ?_; refine pwp_seq ?_; refine pwp_block ?_; refine pwp_seq ?_; refine pwx_sd Tryz.mixed 0 [] (by rfl) [] (by kernel_rfl) (by simp) fun _ K11 => ?_; simp (disch := omega) only [go_sem]; refine K11 _ ?_; clear K11; refine pwp_cond (b := _) (by rfl) (fun hb3 => ?_) (fun hb3 => ?_)
        · have hd : dg A k < dg B k := by simpa using hb3
          refine pwx_sr 0 [] (by rfl) fun _ K12 => ?_; simp (disch := omega) only [go_sem]; refine K12 _ ?_; clear K12; refine pwp_ret ?_; refine r_then ?_; refine r_block ?_; refine r_then ?_; refine r_then ?_; refine r_block ?_; refine r_then ?_; refine ⟨Or.inr rfl, ?_⟩; simp (disch := omega) only [go_sem]; rw [cmpN_lt (cmp_lt hdA h2 hd)]
        · have hd : ¬ dg A k < dg B k := by simpa using hb3
          refine pwp_skip ?_; refine n_then ?_; refine pwx_sd Tryz.mixed 0 [] (by rfl) [] (by kernel_rfl) (by simp) fun _ K13 => ?_; simp (disch := omega) only [go_sem]; refine K13 _ ?_; clear K13; refine pwp_cond (b := _) (by rfl) (fun hb4 => ?_) (fun hb4 => ?_)
          · have hd' : dg B k < dg A k := by simpa using hb4
            refine pwx_sr 0 [] (by rfl) fun _ K14 => ?_; simp (disch := omega) only [go_sem]; refine K14 _ ?_; clear K14; refine pwp_ret ?_; refine r_block ?_; refine r_then ?_; refine r_then ?_; refine r_block ?_; refine r_then ?_; refine ⟨Or.inr rfl, ?_⟩; simp (disch := omega) only [go_sem]; rw [cmpN_gt (cmp_lt hdB h2.symm hd')]
          · have hd' : ¬ dg B k < dg A k := by simpa using hb4
            refine pwp_skip ?_; refine n_block ?_; refine n_then ?_; refine pwx_region 0 [] (by rfl) fun _ K15 => ?_; simp (disch := omega) only [go_sem]; refine K15 _ ?_; clear K15; refine n_then ?_; refine ⟨_, ?hdec, ⟨k, ?hf0, ?hf1, rfl, ?heq⟩, ?hok⟩
            case heq => first | rfl | simp [St.cut, keep]
            case hf0 => omega
            case hf1 => exact cmp_step h2 (by omega)
            case hdec => omega
            case hok => refine ⟨rfl, ?_, ?_⟩ <;> first | rfl | (simp [keep, PV.lt, PE.lt, PC.lt, Box.lt, ↓lC_lt]; done) | simp [keep, PV.lt, PE.lt, PC.lt, Box.lt, ↓lC_lt, ↓intC_lt, ↓ratC_lt, ↓u32s_lt]
      · have hk : k = 0 := by simp at hb2; omega
        refine pwp_exit ?_; refine e_then ?_; refine e_then ?_; refine e_here ?_; refine n_then ?_; refine pwx_sr 0 [] (by rfl) fun _ K16 => ?_; simp (disch := omega) only [go_sem]; refine K16 _ ?_; clear K16; refine pwp_ret ?_; refine ⟨Or.inr rfl, ?_⟩; simp (disch := omega) only [go_sem]; rw [cmpN_eq (cmp_done h2 hk)]

end Go.Proofs.YtdojhoegildiaaaGreat

set_option linter.unusedSimpArgs false
set_option linter.unusedVariables false
set_option maxRecDepth 20000
namespace Go.Proofs.YtdojhoegildiaaaGreat
open Go Go.PL
set_option maxHeartbeats 4000000 in
theorem c_integer_plus (a : List Nat) (hda : Dig a) (hla : a.length ≤ 4000000) (b : List Nat) (hdb : Dig b) (hlb : b.length ≤ 4000000) :
    Ret Tryz.prog 122 [.c (lC a), .c (lC b)] (.e (.c (lC (fl (max a.length b.length + 1) (val a + val b))))) := by
  refine ret_of_body (md := {}) Tryz.func122 (by kernel_rfl) rfl ?_; simp only [Tryz.f122, go_sem, Nat.reduceAdd, Nat.reduceSub, List.reduceReplicate]; refine pwx_sr 0 [] (by rfl) fun _ K1 => ?_; simp (disch := omega) only [go_sem]; refine K1 _ ?_; clear K1; refine pwp_join (true :: true :: false :: false :: false :: false :: false :: false :: false :: false :: false :: false :: false :: false :: false :: false :: false :: false :: false :: false :: false :: false :: false :: false :: false :: false :: false :: false :: false :: false :: false :: false :: false :: false :: false :: false :: false :: false :: false :: false :: false :: false :: false :: false :: false :: false :: false :: false :: false :: false :: false :: false :: false :: []) 0 (fun s => ∃ A : List Nat, ∃ B : List Nat, (Dig A) ∧ (Dig B) ∧ (A.length ≤ 4000000) ∧ (B.length ≤ 4000000) ∧ (B.length ≤ A.length) ∧ (A.length = max a.length b.length) ∧ (val A + val B = val a + val b) ∧ s = { slots := .e (.c (lC A)) :: .e (.c (lC B)) :: .j :: .j :: .j :: .j :: .j :: .j :: .j :: .j :: .j :: .j :: .j :: .j :: .j :: .j :: .j :: .j :: .j :: .j :: .j :: .j :: .j :: .j :: .j :: .j :: .j :: .j :: .j :: .j :: .j :: .j :: .j :: .j :: .j :: .j :: .j :: .j :: .j :: .j :: .j :: .j :: .j :: .j :: .j :: .j :: .j :: .j :: .j :: .j :: .j :: .j :: .j :: [], st := [] }) rfl ?_ ?_
  · refine pwx_sr 0 [] (by rfl) fun _ K2 => ?_; simp (disch := omega) only [go_sem]; refine K2 _ ?_; clear K2; refine pwp_cond (b := _) (by rfl) (fun hb0 => ?_) (fun hb0 => ?_)
    · first | replace hb0 := of_decide_eq_true hb0 | skip
      refine pwx_region 0 [] (by rfl) fun _ K3 => ?_; simp (disch := omega) only [go_sem]; refine K3 _ ?_; clear K3; refine n_then ?_; refine ⟨⟨b, a, ?hf0, ?hf1, ?hf2, ?hf3, ?hf4, ?hf5, ?hf6, ?heq⟩, ?hok⟩
      case heq => first | rfl | simp [St.cut, keep]
      case hf0 => assumption
      case hf1 => assumption
      case hf2 => omega
      case hf3 => omega
      case hf4 => omega
      case hf5 => omega
      case hf6 => omega
      case hok => refine ⟨rfl, ?_, ?_⟩ <;> first | rfl | (simp [keep, PV.lt, PE.lt, PC.lt, Box.lt, ↓lC_lt]; done) | simp [keep, PV.lt, PE.lt, PC.lt, Box.lt, ↓lC_lt, ↓intC_lt, ↓ratC_lt, ↓u32s_lt]
    · first | replace hb0 := of_decide_eq_false hb0 | skip
      refine pwp_skip ?_; refine n_then ?_; refine ⟨⟨a, b, ?hf0, ?hf1, ?hf2, ?hf3, ?hf4, ?hf5, ?hf6, ?heq⟩, ?hok⟩
      case heq => first | rfl | simp [St.cut, keep]
      case hf0 => assumption
      case hf1 => assumption
      case hf2 => omega
      case hf3 => omega
      case hf4 => omega
      case hf5 => omega
      case hf6 => omega
      case hok => refine ⟨rfl, ?_, ?_⟩ <;> first | rfl | (simp [keep, PV.lt, PE.lt, PC.lt, Box.lt, ↓lC_lt]; done) | simp [keep, PV.lt, PE.lt, PC.lt, Box.lt, ↓lC_lt, ↓intC_lt, ↓ratC_lt, ↓u32s_lt]
  · rintro _ ⟨A, B, hdA, hdB, hlA, hlB, hAB, hmx, hsum, rfl⟩
    rw [← hsum, ← hmx]; refine pwx_sr 1 [] (by rfl) fun _ K4 => ?_; simp (disch := omega) only [go_sem, if_pos]; refine K4 _ ?_; clear K4; refine pwx_sr 0 [] (by rfl) fun _ K5 => ?_; simp (disch := omega) only [go_sem]; refine K5 _ ?_; clear K5; refine pwp_seq ?_; refine pwx_sr 0 [] (by rfl) fun _ K6 => ?_; simp (disch := omega) only [go_sem]; refine K6 _ ?_; clear K6; refine pwp_block ?_; refine pwp_loopF (false :: true :: false :: false :: false :: true :: true :: false :: false :: false :: false :: false :: false :: false :: false :: false :: false :: false :: false :: false :: true :: true :: true :: false :: false :: false :: false :: false :: false :: false :: false :: false :: false :: false :: false :: false :: false :: false :: false :: false :: false :: false :: false :: false :: false :: false :: false :: false :: false :: false :: false :: false :: false :: []) 1 (fun M s => ∃ i : Nat, ∃ out : List Nat, ∃ c : Nat, ∃ r : Nat, (i ≤ A.length) ∧ (i + r = A.length + 1) ∧ (PlusI A B i out c) ∧ A.length - i = M ∧ s = { slots := .j :: .e (.c (lC B)) :: .j :: .j :: .j :: .e (.c (.msl 0 0 i (A.length + 1) 1)) :: .e (.c (.int .u32 (c : Int))) :: .j :: .j :: .j :: .j :: .j :: .j :: .j :: .j :: .j :: .j :: .j :: .j :: .j :: .e (.c (lC A)) :: .e (.c (.int .i64 (A.length : Int))) :: .e (.c (.int .i64 (i : Int))) :: .j :: .j :: .j :: .j :: .j :: .j :: .j :: .j :: .j :: .j :: .j :: .j :: .j :: .j :: .j :: .j :: .j :: .j :: .j :: .j :: .j :: .j :: .j :: .j :: .j :: .j :: .j :: .j :: .j :: .j :: [], st := [.live (u32s (out ++ List.replicate r 0))] }) (n := A.length - 0) rfl ?_ ?_ ?_
    · refine ⟨0, [], 0, A.length + 1, ?_, ?_, ?_, rfl, ?_⟩
      · omega
      · omega
      · exact PlusI.zero A B
      · first | rfl | simp [St.cut, keep]
    · refine ⟨rfl, ?_, ?_⟩ <;> first | rfl | (simp [keep, PV.lt, PE.lt, PC.lt, Box.lt, ↓lC_lt]; done) | simp [keep, PV.lt, PE.lt, PC.lt, Box.lt, ↓lC_lt, ↓intC_lt, ↓ratC_lt, ↓u32s_lt]
    · rintro _ _ ⟨i, out, c, r, hi0, hr, hI, rfl, rfl⟩
      have hlen := hI.len; have hc := hI.car; have hx := dg_lt9 hdA i; have hy := dg_lt9 hdB i; refine pwx_sr 0 [] (by rfl) fun _ K7 => ?_; simp (disch := omega) only [go_sem]; refine K7 _ ?_; clear K7; refine pwp_seq ?_; refine pwp_cond (b := _) (by rfl) (fun hb1 => ?_) (fun hb1 => ?_)
      · first | replace hb1 := of_decide_eq_true hb1 | skip
        refine pwp_skip ?_; refine n_then ?_; refine pwp_seq ?_; refine pwp_block ?_; refine pwx_sr 0 [] (by rfl) fun _ K8 => ?_; simp (disch := omega) only [go_sem]; refine K8 _ ?_; clear K8; refine pwx_sr 0 [] (by rfl) fun _ K9 => ?_; simp (disch := omega) only [go_sem]; refine K9 _ ?_; clear K9; refine pwp_seq ?_; refine pwx_sr 0 [] (by rfl) fun _ K10 => ?_; simp (disch := omega) only [go_sem]; refine K10 _ ?_; clear K10; refine pwp_cond (b := _) (by rfl) (fun hb2 => ?_) (fun hb2 => ?_)
        · first | replace hb2 := of_decide_eq_true hb2 | skip
          refine pwx_region 0 [] (by rfl) fun _ K11 => ?_; simp (disch := omega) only [go_sem]; refine K11 _ ?_; clear K11; refine n_then ?_; refine pwx_sr 0 [] (by rfl) fun _ K12 => ?_; simp (disch := omega) only [go_sem]; refine K12 _ ?_; clear K12; refine pwp_seq ?_; refine pwx_sr 0 [] (by rfl) fun _ K13 => ?_; simp (disch := omega) only [go_sem]; refine K13 _ ?_; clear K13; refine pwp_cond (b := _) (by rfl) (fun hb3 => ?_) (fun hb3 => ?_)
          · first | replace hb3 := of_decide_eq_true hb3 | skip
            refine pwx_region 0 [] (by rfl) fun _ K14 => ?_; simp (disch := omega) only [go_sem]; refine K14 _ ?_; clear K14; refine n_then ?_; refine pwx_region 2 [] (by rfl) fun _ K15 => ?_; simp (disch := omega) only [go_sem]; refine K15 _ ?_; clear K15; refine n_block ?_; refine n_then ?_; refine pwx_region 0 [] (by rfl) fun _ K16 => ?_; simp (disch := omega) only [go_sem]; refine K16 _ ?_; clear K16; refine n_then ?_; refine ⟨_, ?hdec, ⟨i + 1, out ++ [dg A i + c + dg B i - 1000000000], 1, r - 1, ?hf0, ?hf1, ?hf2, rfl, ?heq⟩, ?hok⟩
            case heq => first | rfl | simp [St.cut, keep]
            case hf0 => omega
            case hf1 => omega
            case hf2 => exact hI.hi9 hdA hdB (by omega)
            case hdec => omega
            case hok => refine ⟨rfl, ?_, ?_⟩ <;> first | rfl | (simp [keep, PV.lt, PE.lt, PC.lt, Box.lt, ↓lC_lt]; done) | simp [keep, PV.lt, PE.lt, PC.lt, Box.lt, ↓lC_lt, ↓intC_lt, ↓ratC_lt, ↓u32s_lt]
          · first | replace hb3 := of_decide_eq_false hb3 | skip
            refine pwp_skip ?_; refine n_then ?_; refine pwx_region 2 [] (by rfl) fun _ K17 => ?_; simp (disch := omega) only [go_sem]; refine K17 _ ?_; clear K17; refine n_block ?_; refine n_then ?_; refine pwx_region 0 [] (by rfl) fun _ K18 => ?_; simp (disch := omega) only [go_sem]; refine K18 _ ?_; clear K18; refine n_then ?_; refine ⟨_, ?hdec, ⟨i + 1, out ++ [dg A i + c + dg B i], 0, r - 1, ?hf0, ?hf1, ?hf2, rfl, ?heq⟩, ?hok⟩
            case heq => first | rfl | simp [St.cut, keep]
            case hf0 => omega
            case hf1 => omega
            case hf2 => exact hI.lo9 rfl (by omega)
            case hdec => omega
            case hok => refine ⟨rfl, ?_, ?_⟩ <;> first | rfl | (simp [keep, PV.lt, PE.lt, PC.lt, Box.lt, ↓lC_lt]; done) | simp [keep, PV.lt, PE.lt, PC.lt, Box.lt, ↓lC_lt, ↓intC_lt, ↓ratC_lt, ↓u32s_lt]
        · first | replace hb2 := of_decide_eq_false hb2 | skip
          refine pwp_skip ?_; refine n_then ?_; refine pwx_sr 0 [] (by rfl) fun _ K19 => ?_; simp (disch := omega) only [go_sem]; refine K19 _ ?_; clear K19; refine pwp_seq ?_; refine pwx_sr 0 [] (by rfl) fun _ K20 => ?_; simp (disch := omega) only [go_sem]; refine K20 _ ?_; clear K20; refine pwp_cond (b := _) (by rfl) (fun hb4 => ?_) (fun hb4 => ?_)
          · first | replace hb4 := of_decide_eq_true hb4 | skip
            refine pwx_region 0 [] (by rfl) fun _ K21 => ?_; simp (disch := omega) only [go_sem]; refine K21 _ ?_; clear K21; refine n_then ?_; refine pwx_region 2 [] (by rfl) fun _ K22 => ?_; simp (disch := omega) only [go_sem]; refine K22 _ ?_; clear K22; refine n_block ?_; refine n_then ?_; refine pwx_region 0 [] (by rfl) fun _ K23 => ?_; simp (disch := omega) only [go_sem]; refine K23 _ ?_; clear K23; refine n_then ?_; have hz := dg_out (l := B) (i := i) (by omega); refine ⟨_, ?hdec, ⟨i + 1, out ++ [dg A i + c - 1000000000], 1, r - 1, ?hf0, ?hf1, ?hf2, rfl, ?heq⟩, ?hok⟩
            case heq => first | rfl | simp [St.cut, keep]
            case hf0 => omega
            case hf1 => omega
            case hf2 => exact hI.hi9 hdA hdB (by omega)
            case hdec => omega
            case hok => refine ⟨rfl, ?_, ?_⟩ <;> first | rfl | (simp [keep, PV.lt, PE.lt, PC.lt, Box.lt, ↓lC_lt]; done) | simp [keep, PV.lt, PE.lt, PC.lt, Box.lt, ↓lC_lt, ↓intC_lt, ↓ratC_lt, ↓u32s_lt]
          · first | replace hb4 := of_decide_eq_false hb4 | skip
            refine pwp_skip ?_; refine n_then ?_; refine pwx_region 2 [] (by rfl) fun _ K24 => ?_; simp (disch := omega) only [go_sem]; refine K24 _ ?_; clear K24; refine n_block ?_; refine n_then ?_; refine pwx_region 0 [] (by rfl) fun _ K25 => ?_; simp (disch := omega) only [go_sem]; refine K25 _ ?_; clear K25; refine n_then ?_; have hz := dg_out (l := B) (i := i) (by omega); refine ⟨_, ?hdec, ⟨i + 1, out ++ [dg A i + c], 0, r - 1, ?hf0, ?hf1, ?hf2, rfl, ?heq⟩, ?hok⟩
            case heq => first | rfl | simp [St.cut, keep]
            case hf0 => omega
            case hf1 => omega
            case hf2 => exact hI.lo9 (by omega) (by omega)
            case hdec => omega
            case hok => refine ⟨rfl, ?_, ?_⟩ <;> first | rfl | (simp [keep, PV.lt, PE.lt, PC.lt, Box.lt, ↓lC_lt]; done) | simp [keep, PV.lt, PE.lt, PC.lt, Box.lt, ↓lC_lt, ↓intC_lt, ↓ratC_lt, ↓u32s_lt]
      · first | replace hb1 := of_decide_eq_false hb1 | skip
        refine pwp_exit ?_; refine e_then ?_; refine e_then ?_; refine e_here ?_; refine n_then ?_; refine pwx_sr 2 [] (by rfl) fun _ K26 => ?_; simp (disch := omega) only [go_sem]; refine K26 _ ?_; clear K26; refine pwp_ret ?_; refine ⟨Or.inr rfl, ?_⟩; simp (disch := omega) only [go_sem]
        obtain rfl : i = A.length := by omega
        obtain rfl : r = 1 := by omega
        rw [← hI.done hAB, Nat.sub_self, List.replicate_zero, List.take_of_length_le (by simp [hlen]), sl_u32s (by simp [hlen])]
set_option maxHeartbeats 4000000 in
theorem c_integer_minus (a : List Nat) (hda : Dig a) (hla : a.length ≤ 4000000) (b : List Nat) (hdb : Dig b) (hlb : b.length ≤ 4000000) (hba : val b ≤ val a) :
    Ret Tryz.prog 123 [.c (lC a), .c (lC b)] (.e (.c (lC (fl a.length (val a - val b))))) := by
  refine ret_of_body (md := {}) Tryz.func123 (by kernel_rfl) rfl ?_; simp only [Tryz.f123, go_sem, Nat.reduceAdd, Nat.reduceSub, List.reduceReplicate]; refine pwx_sr 0 [] (by rfl) fun _ K1 => ?_; simp (disch := omega) only [go_sem]; refine K1 _ ?_; clear K1; refine pwx_sr 1 [] (by rfl) fun _ K2 => ?_; simp (disch := omega) only [go_sem]; refine K2 _ ?_; clear K2; refine pwx_sr 0 [] (by rfl) fun _ K3 => ?_; simp (disch := omega) only [go_sem]; refine K3 _ ?_; clear K3; refine pwp_seq ?_; refine pwx_sr 0 [] (by rfl) fun _ K4 => ?_; simp (disch := omega) only [go_sem]; refine K4 _ ?_; clear K4; refine pwp_block ?_; refine pwp_loopF (false :: true :: false :: false :: false :: true :: true :: false :: false :: false :: false :: false :: false :: true :: true :: true :: false :: false :: false :: false :: false :: false :: false :: false :: false :: false :: false :: false :: false :: false :: false :: false :: false :: false :: false :: false :: false :: false :: false :: false :: false :: false :: false :: false :: []) 1 (fun M s => ∃ i : Nat, ∃ out : List Nat, ∃ c : Nat, ∃ r : Nat, (i + r = a.length) ∧ (MinusI a b i out c) ∧ a.length - i = M ∧ s = { slots := .j :: .e (.c (lC b)) :: .j :: .j :: .j :: .e (.c (.msl 0 0 a.length a.length 1)) :: .e (.c (.int .u32 (c : Int))) :: .j :: .j :: .j :: .j :: .j :: .j :: .e (.c (lC a)) :: .e (.c (.int .i64 (a.length : Int))) :: .e (.c (.int .i64 (i : Int))) :: .j :: .j :: .j :: .j :: .j :: .j :: .j :: .j :: .j :: .j :: .j :: .j :: .j :: .j :: .j :: .j :: .j :: .j :: .j :: .j :: .j :: .j :: .j :: .j :: .j :: .j :: .j :: .j :: [], st := [.live (u32s (out ++ List.replicate r 0))] }) (n := a.length - 0) rfl ?_ ?_ ?_
  · refine ⟨0, [], 0, a.length, ?_, ?_, rfl, ?_⟩
    · omega
    · exact MinusI.zero a b
    · first | rfl | simp [St.cut, keep]
  · refine ⟨rfl, ?_, ?_⟩ <;> first | rfl | (simp [keep, PV.lt, PE.lt, PC.lt, Box.lt, ↓lC_lt]; done) | simp [keep, PV.lt, PE.lt, PC.lt, Box.lt, ↓lC_lt, ↓intC_lt, ↓ratC_lt, ↓u32s_lt]
  · rintro _ _ ⟨i, out, c, r, hr, hI, rfl, rfl⟩
    have hlen := hI.len; have hc := hI.car; have hx := dg_lt9 hda i; have hy := dg_lt9 hdb i; refine pwx_sr 0 [] (by rfl) fun _ K5 => ?_; simp (disch := omega) only [go_sem]; refine K5 _ ?_; clear K5; refine pwp_seq ?_; refine pwp_cond (b := _) (by rfl) (fun hb0 => ?_) (fun hb0 => ?_)
    · first | replace hb0 := of_decide_eq_true hb0 | skip
      refine pwp_skip ?_; refine n_then ?_; refine pwp_seq ?_; refine pwp_block ?_; refine pwx_sr 0 [] (by rfl) fun _ K6 => ?_; simp (disch := omega) only [go_sem]; refine K6 _ ?_; clear K6; refine pwx_sr 0 [] (by rfl) fun _ K7 => ?_; simp (disch := omega) only [go_sem]; refine K7 _ ?_; clear K7; refine pwp_seq ?_; refine pwx_sr 0 [] (by rfl) fun _ K8 => ?_; simp (disch := omega) only [go_sem]; refine K8 _ ?_; clear K8; refine pwp_cond (b := _) (by rfl) (fun hb1 => ?_) (fun hb1 => ?_)
      · first | replace hb1 := of_decide_eq_true hb1 | skip
        refine pwx_region 0 [] (by rfl) fun _ K9 => ?_; simp (disch := omega) only [go_sem]; refine K9 _ ?_; clear K9; refine n_then ?_; refine pwx_sr 0 [] (by rfl) fun _ K10 => ?_; simp (disch := omega) only [go_sem]; refine K10 _ ?_; clear K10; refine pwp_seq ?_; refine pwx_sr 0 [] (by rfl) fun _ K11 => ?_; simp (disch := omega) only [go_sem]; refine K11 _ ?_; clear K11; refine pwp_cond (b := _) (by rfl) (fun hb2 => ?_) (fun hb2 => ?_)
        · first | replace hb2 := of_decide_eq_true hb2 | skip
          refine pwx_region 0 [] (by rfl) fun _ K12 => ?_; simp (disch := omega) only [go_sem]; refine K12 _ ?_; clear K12; refine n_then ?_; refine pwx_region 0 [] (by rfl) fun _ K13 => ?_; simp (disch := omega) only [go_sem]; refine K13 _ ?_; clear K13; refine n_block ?_; refine n_then ?_; refine pwx_region 0 [] (by rfl) fun _ K14 => ?_; simp (disch := omega) only [go_sem]; refine K14 _ ?_; clear K14; refine n_then ?_; refine ⟨_, ?hdec, ⟨i + 1, out ++ [dg a i + 1000000000 - (c + dg b i)], 1, r - 1, ?hf0, ?hf1, rfl, ?heq⟩, ?hok⟩
          case heq => first | rfl | simp [St.cut, keep]
          case hf0 => omega
          case hf1 => exact hI.hi9 hdb (by omega) (by omega)
          case hdec => omega
          case hok => refine ⟨rfl, ?_, ?_⟩ <;> first | rfl | (simp [keep, PV.lt, PE.lt, PC.lt, Box.lt, ↓lC_lt]; done) | simp [keep, PV.lt, PE.lt, PC.lt, Box.lt, ↓lC_lt, ↓intC_lt, ↓ratC_lt, ↓u32s_lt]
        · first | replace hb2 := of_decide_eq_false hb2 | skip
          refine pwp_skip ?_; refine n_then ?_; refine pwx_region 0 [] (by rfl) fun _ K15 => ?_; simp (disch := omega) only [go_sem]; refine K15 _ ?_; clear K15; refine n_block ?_; refine n_then ?_; refine pwx_region 0 [] (by rfl) fun _ K16 => ?_; simp (disch := omega) only [go_sem]; refine K16 _ ?_; clear K16; refine n_then ?_; refine ⟨_, ?hdec, ⟨i + 1, out ++ [dg a i - (c + dg b i)], 0, r - 1, ?hf0, ?hf1, rfl, ?heq⟩, ?hok⟩
          case heq => first | rfl | simp [St.cut, keep]
          case hf0 => omega
          case hf1 => exact hI.lo hda (by omega)
          case hdec => omega
          case hok => refine ⟨rfl, ?_, ?_⟩ <;> first | rfl | (simp [keep, PV.lt, PE.lt, PC.lt, Box.lt, ↓lC_lt]; done) | simp [keep, PV.lt, PE.lt, PC.lt, Box.lt, ↓lC_lt, ↓intC_lt, ↓ratC_lt, ↓u32s_lt]
      · first | replace hb1 := of_decide_eq_false hb1 | skip
        refine pwp_skip ?_; refine n_then ?_; refine pwx_sr 0 [] (by rfl) fun _ K17 => ?_; simp (disch := omega) only [go_sem]; refine K17 _ ?_; clear K17; refine pwp_seq ?_; refine pwx_sr 0 [] (by rfl) fun _ K18 => ?_; simp (disch := omega) only [go_sem]; refine K18 _ ?_; clear K18; refine pwp_cond (b := _) (by rfl) (fun hb3 => ?_) (fun hb3 => ?_)
        · first | replace hb3 := of_decide_eq_true hb3 | skip
          refine pwx_region 0 [] (by rfl) fun _ K19 => ?_; simp (disch := omega) only [go_sem]; refine K19 _ ?_; clear K19; refine n_then ?_; refine pwx_region 0 [] (by rfl) fun _ K20 => ?_; simp (disch := omega) only [go_sem]; refine K20 _ ?_; clear K20; refine n_block ?_; refine n_then ?_; refine pwx_region 0 [] (by rfl) fun _ K21 => ?_; simp (disch := omega) only [go_sem]; refine K21 _ ?_; clear K21; refine n_then ?_; have hz := dg_out (l := b) (i := i) (by omega); refine ⟨_, ?hdec, ⟨i + 1, out ++ [dg a i + 1000000000 - c], 1, r - 1, ?hf0, ?hf1, rfl, ?heq⟩, ?hok⟩
          case heq => first | rfl | simp [St.cut, keep]
          case hf0 => omega
          case hf1 => exact hI.hi9 hdb (by omega) (by omega)
          case hdec => omega
          case hok => refine ⟨rfl, ?_, ?_⟩ <;> first | rfl | (simp [keep, PV.lt, PE.lt, PC.lt, Box.lt, ↓lC_lt]; done) | simp [keep, PV.lt, PE.lt, PC.lt, Box.lt, ↓lC_lt, ↓intC_lt, ↓ratC_lt, ↓u32s_lt]
        · first | replace hb3 := of_decide_eq_false hb3 | skip
          refine pwp_skip ?_; refine n_then ?_; refine pwx_region 0 [] (by rfl) fun _ K22 => ?_; simp (disch := omega) only [go_sem]; refine K22 _ ?_; clear K22; refine n_block ?_; refine n_then ?_; refine pwx_region 0 [] (by rfl) fun _ K23 => ?_; simp (disch := omega) only [go_sem]; refine K23 _ ?_; clear K23; refine n_then ?_; have hz := dg_out (l := b) (i := i) (by omega); refine ⟨_, ?hdec, ⟨i + 1, out ++ [dg a i - c], 0, r - 1, ?hf0, ?hf1, rfl, ?heq⟩, ?hok⟩
          case heq => first | rfl | simp [St.cut, keep]
          case hf0 => omega
          case hf1 => exact hI.lo hda (by omega)
          case hdec => omega
          case hok => refine ⟨rfl, ?_, ?_⟩ <;> first | rfl | (simp [keep, PV.lt, PE.lt, PC.lt, Box.lt, ↓lC_lt]; done) | simp [keep, PV.lt, PE.lt, PC.lt, Box.lt, ↓lC_lt, ↓intC_lt, ↓ratC_lt, ↓u32s_lt]
    · first | replace hb0 := of_decide_eq_false hb0 | skip
      refine pwp_exit ?_; refine e_then ?_; refine e_then ?_; refine e_here ?_; refine n_then ?_; refine pwx_sr 0 [] (by rfl) fun _ K24 => ?_; simp (disch := omega) only [go_sem]; refine K24 _ ?_; clear K24; refine pwp_ret ?_; refine ⟨Or.inr rfl, ?_⟩; simp (disch := omega) only [go_sem]
      obtain rfl : i = a.length := by omega
      obtain rfl : r = 0 := by omega
      rw [← hI.done hda hdb hba, List.replicate_zero, List.append_nil, List.take_of_length_le (by omega), sl_u32s hlen.symm]
set_option maxHeartbeats 4000000 in
theorem c_integer_times (a : List Nat) (hda : Dig a) (hla : a.length ≤ 4000000) (b : List Nat) (hdb : Dig b) (hlb : b.length ≤ 4000000) :
    Ret Tryz.prog 124 [.c (lC a), .c (lC b)] (.e (.c (lC (fl (a.length + b.length) (val a * val b))))) := by
  refine ret_of_body (md := {}) Tryz.func124 (by kernel_rfl) rfl ?_; simp only [Tryz.f124, go_sem, Nat.reduceAdd, Nat.reduceSub, List.reduceReplicate]; refine pwx_sr 0 [] (by rfl) fun _ K1 => ?_; simp (disch := omega) only [go_sem]; refine K1 _ ?_; clear K1; refine pwx_sr 1 [] (by rfl) fun _ K2 => ?_; simp (disch := omega) only [go_sem]; refine K2 _ ?_; clear K2; refine pwp_seq ?_; refine pwx_sr 0 [] (by rfl) fun _ K3 => ?_; simp (disch := omega) only [go_sem]; refine K3 _ ?_; clear K3; refine pwp_block ?_; refine pwp_loopF (false :: true :: false :: false :: false :: true :: false :: false :: false :: false :: false :: false :: false :: false :: false :: false :: false :: false :: true :: true :: true :: false :: false :: false :: false :: false :: false :: false :: false :: false :: false :: false :: false :: false :: false :: false :: false :: false :: false :: false :: false :: false :: false :: false :: false :: false :: false :: false :: false :: false :: false :: false :: false :: false :: false :: false :: false :: false :: false :: false :: false :: false :: false :: false :: false :: false :: false :: false :: []) 1 (fun M s => ∃ i : Nat, ∃ out : List Nat, (i ≤ a.length) ∧ (TimesO a b i out) ∧ a.length - i = M ∧ s = { slots := .j :: .e (.c (lC b)) :: .j :: .j :: .j :: .e (.c (.msl 0 0 (a.length + b.length) (a.length + b.length) 1)) :: .j :: .j :: .j :: .j :: .j :: .j :: .j :: .j :: .j :: .j :: .j :: .j :: .e (.c (lC a)) :: .e (.c (.int .i64 (a.length : Int))) :: .e (.c (.int .i64 (i : Int))) :: .j :: .j :: .j :: .j :: .j :: .j :: .j :: .j :: .j :: .j :: .j :: .j :: .j :: .j :: .j :: .j :: .j :: .j :: .j :: .j :: .j :: .j :: .j :: .j :: .j :: .j :: .j :: .j :: .j :: .j :: .j :: .j :: .j :: .j :: .j :: .j :: .j :: .j :: .j :: .j :: .j :: .j :: .j :: .j :: .j :: .j :: .j :: [], st := [.live (u32s out)] }) (n := a.length - 0) rfl ?_ ?_ ?_
  · refine ⟨0, List.replicate (a.length + b.length) 0, ?_, ?_, rfl, ?_⟩
    · omega
    · exact TimesO.zero a b
    · first | rfl | simp [St.cut, keep]
  · refine ⟨rfl, ?_, ?_⟩ <;> first | rfl | (simp [keep, PV.lt, PE.lt, PC.lt, Box.lt, ↓lC_lt]; done) | simp [keep, PV.lt, PE.lt, PC.lt, Box.lt, ↓lC_lt, ↓intC_lt, ↓ratC_lt, ↓u32s_lt]
  · rintro _ _ ⟨i, out, hi, hO, rfl, rfl⟩
    have hlo := hO.len; refine pwx_sr 0 [] (by rfl) fun _ K4 => ?_; simp (disch := omega) only [go_sem]; refine K4 _ ?_; clear K4; refine pwp_seq ?_; refine pwp_cond (b := _) (by rfl) (fun hb0 => ?_) (fun hb0 => ?_)
    · first | replace hb0 := of_decide_eq_true hb0 | skip
      refine pwp_skip ?_; refine n_then ?_; refine pwp_seq ?_; refine pwp_block ?_; refine pwx_sr 0 [] (by rfl) fun _ K5 => ?_; simp (disch := omega) only [go_sem]; refine K5 _ ?_; clear K5; refine pwx_sr 0 [] (by rfl) fun _ K6 => ?_; simp (disch := omega) only [go_sem]; refine K6 _ ?_; clear K6; refine pwp_seq ?_; refine pwx_sr 0 [] (by rfl) fun _ K7 => ?_; simp (disch := omega) only [go_sem]; refine K7 _ ?_; clear K7; refine pwp_block ?_; refine pwp_loopF (false :: true :: false :: false :: false :: true :: true :: true :: true :: false :: false :: false :: false :: false :: false :: false :: false :: false :: true :: true :: true :: false :: false :: false :: false :: true :: true :: true :: false :: false :: false :: false :: false :: false :: false :: false :: false :: false :: false :: false :: false :: false :: false :: false :: false :: false :: false :: false :: false :: false :: false :: false :: false :: false :: false :: false :: false :: false :: false :: false :: false :: false :: false :: false :: false :: false :: false :: false :: []) 1 (fun M s => ∃ k : Nat, ∃ out' : List Nat, ∃ c : Nat, (k ≤ b.length) ∧ (TimesI a b i k out' c) ∧ b.length - k = M ∧ s = { slots := .j :: .e (.c (lC b)) :: .j :: .j :: .j :: .e (.c (.msl 0 0 (a.length + b.length) (a.length + b.length) 1)) :: .e (.c (.int .i64 (i : Int))) :: .e (.c (.int .u32 (dg a i : Int))) :: .e (.c (.int .u64 (c : Int))) :: .j :: .j :: .j :: .j :: .j :: .j :: .j :: .j :: .j :: .e (.c (lC a)) :: .e (.c (.int .i64 (a.length : Int))) :: .e (.c (.int .i64 (i : Int))) :: .j :: .j :: .j :: .j :: .e (.c (lC b)) :: .e (.c (.int .i64 (b.length : Int))) :: .e (.c (.int .i64 (k : Int))) :: .j :: .j :: .j :: .j :: .j :: .j :: .j :: .j :: .j :: .j :: .j :: .j :: .j :: .j :: .j :: .j :: .j :: .j :: .j :: .j :: .j :: .j :: .j :: .j :: .j :: .j :: .j :: .j :: .j :: .j :: .j :: .j :: .j :: .j :: .j :: .j :: .j :: .j :: .j :: .j :: [], st := [.live (u32s out')] }) (n := b.length - 0) rfl ?_ ?_ ?_
      · refine ⟨0, out, 0, ?_, ?_, rfl, ?_⟩
        · omega
        · exact hO.inner hda hdb
        · first | rfl | simp [St.cut, keep]
      · refine ⟨rfl, ?_, ?_⟩ <;> first | rfl | (simp [keep, PV.lt, PE.lt, PC.lt, Box.lt, ↓lC_lt]; done) | simp [keep, PV.lt, PE.lt, PC.lt, Box.lt, ↓lC_lt, ↓intC_lt, ↓ratC_lt, ↓u32s_lt]
      · rintro _ _ ⟨k, out', c, hk, hI, rfl, rfl⟩
        have hlen := hI.len; have hc : c < 1000000000 := hI.car; have hx := dg_lt9 hda i; have hy := dg_lt9 hdb k; have hz := dg_lt9 hI.dig (i + k); have hbd : dg out' (i + k) + dg a i * dg b k + c < 1000000000000000000 := hI.bound hda hdb; have ht0 : (dg out' (i + k) + dg a i * dg b k + c) / 1000000000 < 1000000000 := Nat.div_lt_of_lt_mul (by omega); have ht1 := Nat.mod_lt (dg out' (i + k) + dg a i * dg b k + c) (show 0 < 1000000000 by omega); refine pwx_sr 0 [] (by rfl) fun _ K8 => ?_; simp (disch := omega) only [go_sem]; refine K8 _ ?_; clear K8; refine pwp_seq ?_; refine pwp_cond (b := _) (by rfl) (fun hb1 => ?_) (fun hb1 => ?_)
        · first | replace hb1 := of_decide_eq_true hb1 | skip
          refine pwp_skip ?_; refine n_then ?_; refine pwp_seq ?_; refine pwp_block ?_; refine pwx_sr 0 [] (by rfl) fun _ K9 => ?_; simp (disch := omega) only [go_sem]; refine K9 _ ?_; clear K9; refine pwx_sr 0 [] (by rfl) fun _ K10 => ?_; simp (disch := omega) only [go_sem]; refine K10 _ ?_; clear K10; refine pwx_region 0 [] (by rfl) fun _ K11 => ?_; simp (disch := omega) only [go_sem]; refine K11 _ ?_; clear K11; refine n_block ?_; refine n_then ?_; refine pwx_region 0 [] (by rfl) fun _ K12 => ?_; simp (disch := omega) only [go_sem]; refine K12 _ ?_; clear K12; refine n_then ?_; refine ⟨_, ?hdec, ⟨k + 1, out'.set (i + k) ((dg out' (i + k) + dg a i * dg b k + c) % 1000000000), (dg out' (i + k) + dg a i * dg b k + c) / 1000000000, ?hf0, ?hf1, rfl, ?heq⟩, ?hok⟩
          case heq => first | rfl | simp [St.cut, keep]
          case hf0 => omega
          case hf1 => exact hI.step hda hdb (by omega) (by omega) rfl
          case hdec => omega
          case hok => refine ⟨rfl, ?_, ?_⟩ <;> first | rfl | (simp [keep, PV.lt, PE.lt, PC.lt, Box.lt, ↓lC_lt]; done) | simp [keep, PV.lt, PE.lt, PC.lt, Box.lt, ↓lC_lt, ↓intC_lt, ↓ratC_lt, ↓u32s_lt]
        · first | replace hb1 := of_decide_eq_false hb1 | skip
          refine pwp_exit ?_; refine e_then ?_; refine e_then ?_; refine e_here ?_; refine n_then ?_; refine pwx_region 0 [] (by rfl) fun _ K13 => ?_; simp (disch := omega) only [go_sem]; refine K13 _ ?_; clear K13; refine n_block ?_; refine n_then ?_; refine pwx_region 0 [] (by rfl) fun _ K14 => ?_; simp (disch := omega) only [go_sem]; refine K14 _ ?_; clear K14; refine n_then ?_
          have hk2 : k = b.length := by omega
          refine ⟨_, ?hdec, ⟨i + 1, out'.set (i + b.length) c, ?hf0, ?hf1, rfl, ?heq⟩, ?hok⟩
          case heq => first | rfl | simp [St.cut, keep]
          case hf0 => omega
          case hf1 => exact TimesI.close (hk2 ▸ hI) (by omega)
          case hdec => omega
          case hok => refine ⟨rfl, ?_, ?_⟩ <;> first | rfl | (simp [keep, PV.lt, PE.lt, PC.lt, Box.lt, ↓lC_lt]; done) | simp [keep, PV.lt, PE.lt, PC.lt, Box.lt, ↓lC_lt, ↓intC_lt, ↓ratC_lt, ↓u32s_lt]
    · first | replace hb0 := of_decide_eq_false hb0 | skip
      refine pwp_exit ?_; refine e_then ?_; refine e_then ?_; refine e_here ?_; refine n_then ?_; refine pwx_sr 0 [] (by rfl) fun _ K15 => ?_; simp (disch := omega) only [go_sem]; refine K15 _ ?_; clear K15; refine pwp_ret ?_; refine ⟨Or.inr rfl, ?_⟩; simp (disch := omega) only [go_sem]
      obtain rfl : i = a.length := by omega
      rw [← hO.done, List.take_of_length_le (by omega), sl_u32s hlo.symm]
set_option maxHeartbeats 4000000 in
theorem c_integer_byWord (a : List Nat) (hda : Dig a) (hla : a.length ≤ 4000000) (b : Nat) (hp : 0 < b) (hb1 : b < 4294967296) :
    Ret Tryz.prog 145 [.c (lC a), .c (.int .u32 (b : Int))] (.t [.c (lC (fl a.length (val a / b))), .c (lC [val a % b])]) := by
  refine ret_of_body (md := {}) Tryz.func145 (by kernel_rfl) rfl ?_; simp only [Tryz.f145, go_sem, Nat.reduceAdd, Nat.reduceSub, List.reduceReplicate]; refine pwx_sr 0 [] (by rfl) fun _ K1 => ?_; simp (disch := omega) only [go_sem]; refine K1 _ ?_; clear K1; refine pwx_sr 1 [] (by rfl) fun _ K2 => ?_; simp (disch := omega) only [go_sem]; refine K2 _ ?_; clear K2; refine pwx_sr 0 [] (by rfl) fun _ K3 => ?_; simp (disch := omega) only [go_sem]; refine K3 _ ?_; clear K3; refine pwp_seq ?_; refine pwx_sr 0 [] (by rfl) fun _ K4 => ?_; simp (disch := omega) only [go_sem]; refine K4 _ ?_; clear K4; refine pwp_block ?_; refine pwp_loopF (true :: true :: false :: false :: false :: false :: true :: true :: true :: false :: false :: false :: false :: false :: false :: false :: false :: false :: false :: false :: false :: false :: false :: false :: false :: false :: false :: false :: false :: false :: false :: false :: false :: false :: false :: false :: false :: false :: false :: false :: false :: false :: false :: false :: []) 1 (fun M s => ∃ k : Nat, ∃ out : List Nat, ∃ q : Nat, (k ≤ a.length) ∧ (WordI a b k out q) ∧ k = M ∧ s = { slots := .e (.c (lC a)) :: .e (.c (.int .u32 (b : Int))) :: .j :: .j :: .j :: .j :: .e (.c (.msl 0 0 a.length a.length 1)) :: .e (.c (.int .u64 (q : Int))) :: .e (.c (.int .i64 ((k : Int) - 1))) :: .j :: .j :: .j :: .j :: .j :: .j :: .j :: .j :: .j :: .j :: .j :: .j :: .j :: .j :: .j :: .j :: .j :: .j :: .j :: .j :: .j :: .j :: .j :: .j :: .j :: .j :: .j :: .j :: .j :: .j :: .j :: .j :: .j :: .j :: .j :: [], st := [.live (u32s out)] }) (n := a.length) rfl ?_ ?_ ?_
  · refine ⟨a.length, List.replicate a.length 0, 0, ?_, ?_, rfl, ?_⟩
    · omega
    · exact WordI.zero a hp
    · first | rfl | simp [St.cut, keep]
  · refine ⟨rfl, ?_, ?_⟩ <;> first | rfl | (simp [keep, PV.lt, PE.lt, PC.lt, Box.lt, ↓lC_lt]; done) | simp [keep, PV.lt, PE.lt, PC.lt, Box.lt, ↓lC_lt, ↓intC_lt, ↓ratC_lt, ↓u32s_lt]
  · rintro _ _ ⟨k, out, q, hk, hI, rfl, rfl⟩
    have hlen := hI.len; have hq := hI.rst
    have hbz : ¬ ((b : Nat) : Int) = 0 := by omega
    refine pwp_seq ?_; refine pwx_sr 0 [] (by rfl) fun _ K5 => ?_; simp (disch := omega) only [go_sem]; refine K5 _ ?_; clear K5; refine pwp_cond (b := _) (by rfl) (fun hb0 => ?_) (fun hb0 => ?_)
    · replace hb0 := of_decide_eq_true hb0; obtain ⟨k, rfl⟩ : ∃ j, k = j + 1 := ⟨k - 1, by omega⟩; have hx := dg_lt9 hda k; have hbd : q * 1000000000 + dg a k < b * 1000000000 := hI.bound hda; have ht0 : (q * 1000000000 + dg a k) / b < 1000000000 := Nat.div_lt_of_lt_mul hbd; have ht1 := Nat.mod_lt (q * 1000000000 + dg a k) hp; have hw64 := wu64 (Nat.lt_trans ht0 (by omega)); have hw32 := wu32 (Nat.lt_trans ht0 (by omega)); refine pwp_skip ?_; refine n_then ?_; refine pwp_seq ?_; refine pwp_block ?_; refine pwx_sr 0 [] (by rfl) fun _ K6 => ?_; simp (disch := omega) only [go_sem]; refine K6 _ ?_; clear K6; refine pwx_draw Tryz.mixed 0 [] (by rfl) [] (by kernel_rfl) (by simp) fun _ K7 => ?_; simp (disch := omega) only [go_sem, hw64, hw32]; refine K7 _ ?_; clear K7; refine n_block ?_; refine n_then ?_; refine pwx_region 0 [] (by rfl) fun _ K8 => ?_; simp (disch := omega) only [go_sem]; refine K8 _ ?_; clear K8; refine n_then ?_; refine ⟨_, ?hdec, ⟨k, out.set k ((q * 1000000000 + dg a k) / b), (q * 1000000000 + dg a k) % b, ?hf0, ?hf1, rfl, ?heq⟩, ?hok⟩
      case heq => first | rfl | simp [St.cut, keep]
      case hf0 => omega
      case hf1 => exact hI.step hda (by omega) rfl
      case hdec => omega
      case hok => refine ⟨rfl, ?_, ?_⟩ <;> first | rfl | (simp [keep, PV.lt, PE.lt, PC.lt, Box.lt, ↓lC_lt]; done) | simp [keep, PV.lt, PE.lt, PC.lt, Box.lt, ↓lC_lt, ↓intC_lt, ↓ratC_lt, ↓u32s_lt]
    · first | replace hb0 := of_decide_eq_false hb0 | skip
      refine pwp_exit ?_; refine e_then ?_; refine e_then ?_; refine e_here ?_; refine n_then ?_; refine pwx_sr 1 [] (by rfl) fun _ K9 => ?_; simp (disch := omega) only [go_sem]; refine K9 _ ?_; clear K9; refine pwp_ret ?_; refine ⟨Or.inr rfl, ?_⟩; simp (disch := omega) only [go_sem]
      obtain rfl : k = 0 := by omega
      obtain ⟨h1, h2⟩ := hI.done; rw [← h1, ← h2, List.take_of_length_le (by omega), sl_u32s hlen.symm]; exact ⟨rfl, rfl⟩

end Go.Proofs.YtdojhoegildiaaaGreat

namespace Go.PL

class SzI (x : Int) (k : outParam Nat) : Prop where
  le : (limbs x.natAbs).length ≤ k
theorem limbs_len_iff {n k : Nat} : (limbs n).length ≤ k ↔ n < BS ^ k := by
  constructor
  · intro h
    have h1 := val_lt (limbs_dig n)
    rw [limbs_val] at h1
    exact Nat.lt_of_lt_of_le h1 (Nat.pow_le_pow_right (by decide) h)
  · exact limbs_len
theorem SzI.lt {x : Int} {k : Nat} [h : SzI x k] : x.natAbs < BS ^ k := limbs_len_iff.1 h.le
theorem SzI.of_lt {x : Int} {k : Nat} (h : x.natAbs < BS ^ k) : SzI x k := ⟨limbs_len_iff.2 h⟩
theorem SzI.mono {x : Int} {k l : Nat} (h : SzI x k) (hkl : k ≤ l) : SzI x l := ⟨Nat.le_trans h.le hkl⟩
instance SzI.neg {x : Int} {k : Nat} [h : SzI x k] : SzI (-x) k := ⟨by rw [Int.natAbs_neg]; exact h.le⟩
instance SzI.add {x y : Int} {k l : Nat} [h : SzI x k] [h' : SzI y l] : SzI (x + y) (max k l + 1) := by
  refine SzI.of_lt ?_
  have h1 := h.lt; have h2 := h'.lt
  have h3 : BS ^ k ≤ BS ^ max k l := Nat.pow_le_pow_right (by decide) (by omega)
  have h4 : BS ^ l ≤ BS ^ max k l := Nat.pow_le_pow_right (by decide) (by omega)
  have h5 : BS ^ max k l * 2 ≤ BS ^ max k l * BS := Nat.mul_le_mul_left _ (by decide)
  rw [Nat.pow_succ]
  omega
instance SzI.sub {x y : Int} {k l : Nat} [h : SzI x k] [h' : SzI y l] : SzI (x - y) (max k l + 1) := by
  rw [Int.sub_eq_add_neg]; infer_instance
instance SzI.mul {x y : Int} {k l : Nat} [h : SzI x k] [h' : SzI y l] : SzI (x * y) (k + l) := by
  refine SzI.of_lt ?_
  rw [Int.natAbs_mul, Nat.pow_add]
  exact Nat.mul_lt_mul'' h.lt h'.lt

theorem intC_0 (z : Int) : (intC z)[0]? = some (.bool (decide (z < 0))) := rfl
theorem intC_1 (z : Int) : (intC z)[1]? = some (lC (limbs z.natAbs)) := rfl
theorem intC_lt (n : Nat) (z : Int) : (intC z).all (PC.lt n) = true := rfl
theorem ratC_lt (n : Nat) (q : Rat) : (ratC q).all (PC.lt n) = true := rfl
def sgnI (z : Int) : Int := if z < 0 then -1 else if 0 < z then 1 else 0
def cmpI (x y : Int) : Int := if x < y then -1 else if y < x then 1 else 0
theorem cmpI_nn {x y : Int} (hx : ¬ x < 0) (hy : ¬ y < 0) : cmpN x.natAbs y.natAbs = cmpI x y := by
  unfold cmpN cmpI; split <;> split <;> (try split) <;> (try split) <;> omega
theorem cmpI_pp {x y : Int} (hx : x < 0) (hy : y < 0) : cmpN y.natAbs x.natAbs = cmpI x y := by
  unfold cmpN cmpI; split <;> split <;> (try split) <;> (try split) <;> omega
theorem cmpI_np {x y : Int} (hx : x < 0) (hy : ¬ y < 0) : cmpI x y = -1 := by unfold cmpI; split <;> omega
theorem cmpI_pn {x y : Int} (hx : ¬ x < 0) (hy : y < 0) : cmpI x y = 1 := by unfold cmpI; split <;> (try split) <;> omega
theorem val_fl_plus (k a b : Nat) (h : a < BS ^ k) (h' : b < BS ^ k) : val (fl (k + 1) (a + b)) = a + b := by
  rw [val_fl, Nat.mod_eq_of_lt]
  have h5 : BS ^ k * 2 ≤ BS ^ k * BS := Nat.mul_le_mul_left _ (by decide)
  rw [Nat.pow_succ]; omega
theorem limbs_lt (n : Nat) : n < BS ^ (limbs n).length := by
  have h1 := val_lt (limbs_dig n)
  rwa [limbs_val] at h1
theorem plus_val (x y : Nat) : val (fl (max (limbs x).length (limbs y).length + 1) (x + y)) = x + y :=
  val_fl_plus _ _ _ (Nat.lt_of_lt_of_le (limbs_lt x) (Nat.pow_le_pow_right (by decide) (by omega))) (Nat.lt_of_lt_of_le (limbs_lt y) (Nat.pow_le_pow_right (by decide) (by omega)))
theorem minus_val (x y : Nat) : val (fl (limbs x).length (x - y)) = x - y := by
  rw [val_fl, Nat.mod_eq_of_lt]
  have := limbs_lt x; omega
theorem times_val (x y : Nat) : val (fl ((limbs x).length + (limbs y).length) (x * y)) = x * y := by
  rw [val_fl, Nat.mod_eq_of_lt]
  rw [Nat.pow_add]
  exact Nat.mul_lt_mul'' (limbs_lt x) (limbs_lt y)
theorem sg_mul (x y : Int) : sg (decide (x < 0) != decide (y < 0)) (x.natAbs * y.natAbs) = x * y := by
  have h : ((x.natAbs * y.natAbs : Nat) : Int) = x.natAbs * y.natAbs := by simp
  by_cases hx : x < 0 <;> by_cases hy : y < 0 <;> simp only [sg, hx, hy, decide_true, decide_false, bne_self_eq_false, if_false, Bool.false_eq_true]
  · rw [h, show ((x.natAbs : Nat) : Int) = -x by omega, show ((y.natAbs : Nat) : Int) = -y by omega, Int.neg_mul_neg]
  · rw [h, show ((x.natAbs : Nat) : Int) = -x by omega, show ((y.natAbs : Nat) : Int) = y by omega]; simp only [Int.neg_mul, Int.neg_neg]; rfl
  · rw [h, show ((x.natAbs : Nat) : Int) = x by omega, show ((y.natAbs : Nat) : Int) = -y by omega]; simp only [Int.mul_neg, Int.neg_neg]; rfl
  · rw [h, show ((x.natAbs : Nat) : Int) = x by omega, show ((y.natAbs : Nat) : Int) = y by omega]
theorem wu64_pos {n : Int} (h : 0 ≤ n) (h' : n < 9223372036854775808) : IntKind.u64.wrap n = (n.natAbs : Nat) := by
  rw [show n = ((n.natAbs : Nat) : Int) by omega]
  exact wu64 (by omega)
theorem wu64_neg {n : Int} (h : n < 0) (h' : -9223372036854775808 ≤ n) : IntKind.u64.wrap n = ((18446744073709551616 - n.natAbs : Nat) : Int) := by
  unfold IntKind.wrap
  have e : n % (2 ^ IntKind.u64.bits : Int) = n + 18446744073709551616 := by
    simp only [IntKind.bits]
    rw [← Int.add_emod_right]; exact Int.emod_eq_of_lt (by omega) (by omega)
  simp only [e]
  rw [if_neg]
  · omega
  · simp [IntKind.bits, IntKind.signed]
theorem wu64_ng {m : Nat} (h : 0 < m) (h' : m < 18446744073709551616) : IntKind.u64.wrap (0 - (m : Int)) = ((18446744073709551616 - m : Nat) : Int) := by
  unfold IntKind.wrap
  have e : (0 - (m : Int)) % (2 ^ IntKind.u64.bits : Int) = 0 - (m : Int) + 18446744073709551616 := by
    simp only [IntKind.bits]
    rw [← Int.add_emod_right]; exact Int.emod_eq_of_lt (by omega) (by omega)
  simp only [e]
  rw [if_neg]
  · omega
  · simp [IntKind.bits, IntKind.signed]
theorem split_val (u : Nat) : val [u % 1000000000, u / 1000000000 % 1000000000, u / 1000000000 / 1000000000] = u := by
  simp only [val, BS_eq]; omega
theorem split_dig {u : Nat} (h : u < 18446744073709551616) : Dig [u % 1000000000, u / 1000000000 % 1000000000, u / 1000000000 / 1000000000] :=
  Dig.cons (show _ < 1000000000 by omega) (Dig.cons (show _ < 1000000000 by omega) (Dig.cons (show _ < 1000000000 by omega) Dig.nil))
theorem sg_natAbs_neg {n : Int} (h : n < 0) : sg true n.natAbs = n := by simp [sg]; omega
theorem sg_natAbs_pos {n : Int} (h : ¬ n < 0) : sg false n.natAbs = n := by simp [sg]; omega
theorem sgn_n {x : Int} (h : x < 0) : sgnI x = -1 := by simp [sgnI, h]
theorem sgn_p {x : Int} (h : ¬ x < 0) (h' : 0 < ((limbs x.natAbs).length : Int)) : sgnI x = 1 := by
  have : x ≠ 0 := by rintro rfl; simp [limbs_zero] at h'
  unfold sgnI; split <;> (try split) <;> omega
theorem len_zero {n : Nat} (h : ¬ 0 < ((limbs n).length : Int)) : n = 0 := limbs_eq_nil.1 (List.eq_nil_of_length_eq_zero (by omega))
theorem sgn_z {x : Int} (h' : ¬ 0 < ((limbs x.natAbs).length : Int)) : sgnI x = 0 := by
  have : x = 0 := by have := len_zero h'; omega
  subst this; rfl
theorem dec_ne {p q : Prop} [Decidable p] [Decidable q] (h : (!decide p == decide q) = true) : p ↔ ¬ q := by
  by_cases hp : p <;> by_cases hq : q <;> simp [hp, hq] at h ⊢
theorem dec_eq {p q : Prop} [Decidable p] [Decidable q] (h : (!decide p == decide q) = false) : p ↔ q := by
  by_cases hp : p <;> by_cases hq : q <;> simp [hp, hq] at h ⊢
theorem dec_eq' {p q : Prop} [Decidable p] [Decidable q] (h : (decide p == decide q) = true) : p ↔ q := by
  by_cases hp : p <;> by_cases hq : q <;> simp [hp, hq] at h ⊢
theorem dec_ne2 {p q : Prop} [Decidable p] [Decidable q] (h : ¬ decide p = decide q) : p ↔ ¬ q := by
  by_cases hp : p <;> by_cases hq : q <;> simp [hp, hq] at h ⊢
theorem dec_ne3 {p q : Prop} [Decidable p] [Decidable q] (h : ¬ decide p = decide q) : q ↔ ¬ p := by
  by_cases hp : p <;> by_cases hq : q <;> simp [hp, hq] at h ⊢
theorem cmpN_ltz {a b : Nat} : cmpN a b < 0 ↔ a < b := by unfold cmpN; split <;> (try split) <;> omega
theorem sg_add {x y : Int} (h : x < 0 ↔ y < 0) : sg (decide (x < 0)) (x.natAbs + y.natAbs) = x + y := by
  by_cases hx : x < 0 <;> simp [sg, hx] <;> omega
theorem sg_sub1 {x y : Int} (h : x < 0 ↔ ¬ y < 0) (hl : y.natAbs ≤ x.natAbs) : sg (decide (x < 0)) (x.natAbs - y.natAbs) = x + y := by
  by_cases hx : x < 0 <;> simp [sg, hx] <;> omega
theorem sg_neg (x : Int) : sg (!decide (x < 0)) x.natAbs = -x := by
  by_cases hx : x < 0 <;> simp [sg, hx] <;> omega
theorem spl_n {y : Int} (h : y < 0) : splice (intC y) 0 [.bool false] = intC (-y) := by
  have h1 : decide (-y < 0) = false := by simp; omega
  simp only [intC, Int.natAbs_neg, h1]; rfl
theorem spl_p {y : Int} (h : ¬ y < 0) : splice (intC y) 0 [.bool (decide (0 < ((limbs y.natAbs).length : Int)))] = intC (-y) := by
  have h1 : decide (0 < ((limbs y.natAbs).length : Int)) = decide (-y < 0) := by
    by_cases h0 : y = 0
    · subst h0; simp [limbs_zero]
    · have : limbs y.natAbs ≠ [] := fun e => h0 (by have := limbs_eq_nil.1 e; omega)
      have := List.length_pos_iff.2 this
      simp; omega
  simp only [intC, Int.natAbs_neg, h1]; rfl
theorem intC_drop (z : Int) : (intC z).drop 2 = [] := rfl
theorem ratC_drop (q : Rat) : (ratC q).drop 4 = [] := rfl
attribute [go_sem high] spl_n spl_p
attribute [go_sem] intC_drop ratC_drop
attribute [go_sem] plus_val minus_val times_val
attribute [go_sem] intC_0 intC_1 intC_lt ratC_lt limbs_val

end Go.PL

set_option linter.unusedSimpArgs false
set_option linter.unusedVariables false
set_option maxRecDepth 20000
namespace Go.Proofs.YtdojhoegildiaaaGreat
open Go Go.PL
set_option maxHeartbeats 4000000 in
theorem c_integer_split (u : Nat) (hu : u < 18446744073709551616) :
    Ret Tryz.prog 127 [.c (.int .u64 (u : Int))] (.e (.c (lC [u % 1000000000, u / 1000000000 % 1000000000, u / 1000000000 / 1000000000]))) := by
  refine ret_of_body (md := {}) Tryz.func127 (by kernel_rfl) rfl ?_; simp only [Tryz.f127, go_sem, Nat.reduceAdd, Nat.reduceSub, List.reduceReplicate]; refine pwx_sr 0 [] (by rfl) fun _ K1 => ?_; simp (disch := omega) only [go_sem]; refine K1 _ ?_; clear K1; refine pwx_sr 1 [] (by rfl) fun _ K2 => ?_; simp (disch := omega) only [go_sem]; refine K2 _ ?_; clear K2; refine pwp_ret ?_; refine ⟨Or.inr rfl, ?_⟩; simp (disch := omega) only [go_sem]; rfl
set_option maxHeartbeats 4000000 in
theorem c_integer_FromInt64 (n : Int) (h0 : -9223372036854775808 ≤ n) (h1 : n < 9223372036854775808) :
    Ret Tryz.prog 100 [.c (.int .i64 n)] (.e (.a (intC n))) := by
  refine ret_of_body (md := {}) Tryz.func100 (by kernel_rfl) rfl ?_; simp only [Tryz.f100, go_sem, Nat.reduceAdd, Nat.reduceSub, List.reduceReplicate]; refine pwx_sr 1 [] (by rfl) fun _ K1 => ?_; simp (disch := omega) only [go_sem]; refine K1 _ ?_; clear K1; by_cases hn : n < 0
  · refine pwx_sr 0 [] (by rfl) fun _ K2 => ?_; simp (disch := omega) only [go_sem, wu64_neg, wu64_pos]; refine K2 _ ?_; clear K2; refine pwp_seq ?_; refine pwx_sr 0 [] (by rfl) fun _ K3 => ?_; simp (disch := omega) only [go_sem]; refine K3 _ ?_; clear K3; refine pwp_cond (b := true) (by rfl) (fun _ => ?_) (fun h => nomatch h); refine pwx_region 0 [] (by rfl) fun _ K4 => ?_; simp (disch := omega) only [go_sem, wu64_ng]; refine K4 _ ?_; clear K4; refine n_then ?_; refine pwx_sr 0 [] (by rfl) fun _ K5 => ?_; refine rgnX_take 4 fun _ K6 => ?_; simp (disch := omega) only [go_sem, split_val]; refine ⟨_, c_integer_split _ (by omega), ?_⟩; refine K6 _ ?_; refine rgnX_take 1 fun _ K7 => ?_; simp (disch := omega) only [go_sem, split_val]; refine ⟨_, c_integer_signed _ _ (split_dig (by omega)) (by simp), ?_⟩; refine K7 _ ?_; simp (disch := omega) only [go_sem, split_val]; refine K5 _ ?_; clear K7 K6 K5; refine pwp_ret ?_; refine ⟨Or.inr rfl, ?_⟩; simp (disch := omega) only [go_sem]; rw [show 18446744073709551616 - (18446744073709551616 - n.natAbs) = n.natAbs by omega, sg_natAbs_neg hn]
  · refine pwx_sr 0 [] (by rfl) fun _ K8 => ?_; simp (disch := omega) only [go_sem, wu64_neg, wu64_pos]; refine K8 _ ?_; clear K8; refine pwp_seq ?_; refine pwx_sr 0 [] (by rfl) fun _ K9 => ?_; simp (disch := omega) only [go_sem]; refine K9 _ ?_; clear K9; refine pwp_cond (b := false) (by rfl) (fun h => nomatch h) (fun _ => ?_); refine pwp_skip ?_; refine n_then ?_; refine pwx_sr 0 [] (by rfl) fun _ K10 => ?_; refine rgnX_take 4 fun _ K11 => ?_; simp (disch := omega) only [go_sem, split_val]; refine ⟨_, c_integer_split _ (by omega), ?_⟩; refine K11 _ ?_; refine rgnX_take 1 fun _ K12 => ?_; simp (disch := omega) only [go_sem, split_val]; refine ⟨_, c_integer_signed _ _ (split_dig (by omega)) (by simp), ?_⟩; refine K12 _ ?_; simp (disch := omega) only [go_sem, split_val]; refine K10 _ ?_; clear K12 K11 K10; refine pwp_ret ?_; refine ⟨Or.inr rfl, ?_⟩; simp (disch := omega) only [go_sem]; rw [sg_natAbs_pos hn]
set_option maxHeartbeats 4000000 in
theorem c_integer_Sign (x : Int) :
    Ret Tryz.prog 77 [.a (intC x)] (.e (.c (.int .i64 (sgnI x)))) := by
  refine ret_of_body (md := {}) Tryz.func77 (by kernel_rfl) rfl ?_; simp only [Tryz.f77, go_sem, Nat.reduceAdd, Nat.reduceSub, List.reduceReplicate]; refine pwx_sr 1 [] (by rfl) fun _ K1 => ?_; simp (disch := omega) only [go_sem]; refine K1 _ ?_; clear K1; refine pwp_seq ?_; refine pwp_block ?_; refine pwx_sr 0 [] (by rfl) fun _ K2 => ?_; simp (disch := omega) only [go_sem]; refine K2 _ ?_; clear K2; refine pwp_cond (b := _) (by rfl) (fun hb0 => ?_) (fun hb0 => ?_)
  · first | replace hb0 := of_decide_eq_true hb0 | skip
    refine pwx_sr 0 [] (by rfl) fun _ K3 => ?_; simp (disch := omega) only [go_sem]; refine K3 _ ?_; clear K3; refine pwp_ret ?_; refine r_block ?_; refine r_then ?_; refine ⟨Or.inr rfl, ?_⟩; simp (disch := omega) only [go_sem]; rw [sgn_n hb0]
  · first | replace hb0 := of_decide_eq_false hb0 | skip
    refine pwx_sr 0 [] (by rfl) fun _ K4 => ?_; simp (disch := omega) only [go_sem]; refine K4 _ ?_; clear K4; refine pwp_cond (b := _) (by rfl) (fun hb1 => ?_) (fun hb1 => ?_)
    · first | replace hb1 := of_decide_eq_true hb1 | skip
      refine pwx_sr 0 [] (by rfl) fun _ K5 => ?_; simp (disch := omega) only [go_sem]; refine K5 _ ?_; clear K5; refine pwp_ret ?_; refine r_block ?_; refine r_then ?_; refine ⟨Or.inr rfl, ?_⟩; simp (disch := omega) only [go_sem]; rw [sgn_p hb0 hb1]
    · first | replace hb1 := of_decide_eq_false hb1 | skip
      refine pwp_skip ?_; refine n_block ?_; refine n_then ?_; refine pwx_sr 0 [] (by rfl) fun _ K6 => ?_; simp (disch := omega) only [go_sem]; refine K6 _ ?_; clear K6; refine pwp_ret ?_; refine ⟨Or.inr rfl, ?_⟩; simp (disch := omega) only [go_sem]; rw [sgn_z hb1]
set_option maxHeartbeats 4000000 in
theorem c_integer_Cmp (x y : Int) (hx : (limbs x.natAbs).length ≤ 1000000) (hy : (limbs y.natAbs).length ≤ 1000000) :
    Ret Tryz.prog 84 [.a (intC x), .a (intC y)] (.e (.c (.int .i64 (cmpI x y)))) := by
  refine ret_of_body (md := {}) Tryz.func84 (by kernel_rfl) rfl ?_; simp only [Tryz.f84, go_sem, Nat.reduceAdd, Nat.reduceSub, List.reduceReplicate]; refine pwx_sr 2 [] (by rfl) fun _ K1 => ?_; simp (disch := omega) only [go_sem]; refine K1 _ ?_; clear K1; refine pwp_seq ?_; refine pwx_sr 0 [] (by rfl) fun _ K2 => ?_; simp (disch := omega) only [go_sem]; refine K2 _ ?_; clear K2; refine pwp_cond (b := _) (by rfl) (fun hb0 => ?_) (fun hb0 => ?_)
  · first | replace hb0 := of_decide_eq_true hb0 | skip
    refine pwp_seq ?_; refine pwx_sr 0 [] (by rfl) fun _ K3 => ?_; simp (disch := omega) only [go_sem]; refine K3 _ ?_; clear K3; refine pwp_cond (b := _) (by rfl) (fun hb1 => ?_) (fun hb1 => ?_)
    · first | replace hb1 := of_decide_eq_true hb1 | skip
      refine pwx_sr 0 [] (by rfl) fun _ K4 => ?_; simp (disch := omega) only [go_sem]; refine K4 _ ?_; clear K4; refine pwp_ret ?_; refine r_then ?_; refine r_then ?_; refine ⟨Or.inr rfl, ?_⟩; simp (disch := omega) only [go_sem]; rw [cmpI_np hb1 ((dec_ne hb0).1 hb1)]
    · first | replace hb1 := of_decide_eq_false hb1 | skip
      refine pwp_skip ?_; refine n_then ?_; refine pwx_sr 0 [] (by rfl) fun _ K5 => ?_; simp (disch := omega) only [go_sem]; refine K5 _ ?_; clear K5; refine pwp_ret ?_; refine r_then ?_; refine ⟨Or.inr rfl, ?_⟩; simp (disch := omega) only [go_sem]; rw [cmpI_pn hb1 (Classical.not_not.1 fun h => hb1 ((dec_ne hb0).2 h))]
  · first | replace hb0 := of_decide_eq_false hb0 | skip
    refine pwp_skip ?_; refine n_then ?_; refine pwp_seq ?_; refine pwx_sr 0 [] (by rfl) fun _ K6 => ?_; simp (disch := omega) only [go_sem]; refine K6 _ ?_; clear K6; refine pwp_cond (b := _) (by rfl) (fun hb2 => ?_) (fun hb2 => ?_)
    · first | replace hb2 := of_decide_eq_true hb2 | skip
      refine pwx_sr 0 [] (by rfl) fun _ K7 => ?_; refine rgnX_take 5 fun _ K8 => ?_; simp (disch := omega) only [go_sem]; refine ⟨_, c_integer_compare _ (limbs_dig _) (by omega) _ (limbs_dig _) (by omega), ?_⟩; refine K8 _ ?_; simp (disch := omega) only [go_sem]; refine K7 _ ?_; clear K8 K7; refine pwp_ret ?_; refine r_then ?_; refine ⟨Or.inr rfl, ?_⟩; simp (disch := omega) only [go_sem]; rw [cmpI_pp hb2 ((dec_eq hb0).1 hb2)]
    · first | replace hb2 := of_decide_eq_false hb2 | skip
      refine pwp_skip ?_; refine n_then ?_; refine pwx_sr 0 [] (by rfl) fun _ K9 => ?_; refine rgnX_take 5 fun _ K10 => ?_; simp (disch := omega) only [go_sem]; refine ⟨_, c_integer_compare _ (limbs_dig _) (by omega) _ (limbs_dig _) (by omega), ?_⟩; refine K10 _ ?_; simp (disch := omega) only [go_sem]; refine K9 _ ?_; clear K10 K9; refine pwp_ret ?_; refine ⟨Or.inr rfl, ?_⟩; simp (disch := omega) only [go_sem]; rw [cmpI_nn hb2 fun h => hb2 ((dec_eq hb0).2 h)]
set_option maxHeartbeats 4000000 in
theorem c_integer_Add (x y : Int) (hx : (limbs x.natAbs).length ≤ 1000000) (hy : (limbs y.natAbs).length ≤ 1000000) :
    Ret Tryz.prog 86 [.a (intC x), .a (intC y)] (.e (.a (intC (x + y)))) := by
  refine ret_of_body (md := {}) Tryz.func86 (by kernel_rfl) rfl ?_; simp only [Tryz.f86, go_sem, Nat.reduceAdd, Nat.reduceSub, List.reduceReplicate]; refine pwx_sr 3 [] (by rfl) fun _ K1 => ?_; simp (disch := omega) only [go_sem]; refine K1 _ ?_; clear K1; refine pwp_seq ?_; refine pwx_sr 0 [] (by rfl) fun _ K2 => ?_; simp (disch := omega) only [go_sem]; refine K2 _ ?_; clear K2; refine pwp_cond (b := _) (by rfl) (fun hb0 => ?_) (fun hb0 => ?_)
  · first | replace hb0 := of_decide_eq_true hb0 | skip
    refine pwx_sd Tryz.mixed 0 [] (by rfl) [] (by kernel_rfl) (by simp) fun _ K3 => ?_; refine rgnX_take 7 fun _ K4 => ?_; simp (disch := omega) only [go_sem]; refine ⟨_, c_integer_plus _ (limbs_dig _) (by omega) _ (limbs_dig _) (by omega), ?_⟩; refine K4 _ ?_; refine rgnX_take 1 fun _ K5 => ?_; simp (disch := omega) only [go_sem]; refine ⟨_, c_integer_signed _ _ (fl_dig _ _) (by simp only [fl_length]; omega), ?_⟩; refine K5 _ ?_; simp (disch := omega) only [go_sem]; refine K3 _ ?_; clear K5 K4 K3; refine pwp_ret ?_; refine r_then ?_; refine ⟨Or.inr rfl, ?_⟩; simp (disch := omega) only [go_sem]; rw [sg_add (decide_eq_decide.1 hb0)]
  · first | replace hb0 := of_decide_eq_false hb0 | skip
    refine pwp_skip ?_; refine n_then ?_; refine pwp_seq ?_; refine pwx_sr 0 [] (by rfl) fun _ K6 => ?_; refine rgnX_take 5 fun _ K7 => ?_; simp (disch := omega) only [go_sem]; refine ⟨_, c_integer_compare _ (limbs_dig _) (by omega) _ (limbs_dig _) (by omega), ?_⟩; refine K7 _ ?_; simp (disch := omega) only [go_sem]; refine K6 _ ?_; clear K7 K6; refine pwp_cond (b := _) (by rfl) (fun hb1 => ?_) (fun hb1 => ?_)
    · replace hb1 := cmpN_ltz.1 (of_decide_eq_true hb1); refine pwx_region 0 [] (by rfl) fun _ K8 => ?_; simp (disch := omega) only [go_sem]; refine K8 _ ?_; clear K8; refine n_then ?_; refine pwx_sd Tryz.mixed 0 [] (by rfl) [] (by kernel_rfl) (by simp) fun _ K9 => ?_; refine rgnX_take 7 fun _ K10 => ?_; simp (disch := omega) only [go_sem]; refine ⟨_, c_integer_minus _ (limbs_dig _) (by omega) _ (limbs_dig _) (by omega) (by simp only [limbs_val]; omega), ?_⟩; refine K10 _ ?_; refine rgnX_take 1 fun _ K11 => ?_; simp (disch := omega) only [go_sem]; refine ⟨_, c_integer_signed _ _ (fl_dig _ _) (by simp only [fl_length]; omega), ?_⟩; refine K11 _ ?_; simp (disch := omega) only [go_sem]; refine K9 _ ?_; clear K11 K10 K9; refine pwp_ret ?_; refine ⟨Or.inr rfl, ?_⟩; simp (disch := omega) only [go_sem]; rw [sg_sub1 (dec_ne3 hb0) (Nat.le_of_lt hb1), Int.add_comm]
    · replace hb1 : y.natAbs ≤ x.natAbs := Nat.le_of_not_lt fun h => of_decide_eq_false hb1 (cmpN_ltz.2 h)
      refine pwp_skip ?_; refine n_then ?_; refine pwx_sd Tryz.mixed 0 [] (by rfl) [] (by kernel_rfl) (by simp) fun _ K12 => ?_; refine rgnX_take 7 fun _ K13 => ?_; simp (disch := omega) only [go_sem]; refine ⟨_, c_integer_minus _ (limbs_dig _) (by omega) _ (limbs_dig _) (by omega) (by simp only [limbs_val]; omega), ?_⟩; refine K13 _ ?_; refine rgnX_take 1 fun _ K14 => ?_; simp (disch := omega) only [go_sem]; refine ⟨_, c_integer_signed _ _ (fl_dig _ _) (by simp only [fl_length]; omega), ?_⟩; refine K14 _ ?_; simp (disch := omega) only [go_sem]; refine K12 _ ?_; clear K14 K13 K12; refine pwp_ret ?_; refine ⟨Or.inr rfl, ?_⟩; simp (disch := omega) only [go_sem]; rw [sg_sub1 (dec_ne2 hb0) hb1]
set_option maxHeartbeats 4000000 in
theorem c_integer_Mul (x y : Int) (hx : (limbs x.natAbs).length ≤ 1000000) (hy : (limbs y.natAbs).length ≤ 1000000) :
    Ret Tryz.prog 87 [.a (intC x), .a (intC y)] (.e (.a (intC (x * y)))) := by
  refine ret_of_body (md := {}) Tryz.func87 (by kernel_rfl) rfl ?_; simp only [Tryz.f87, go_sem, Nat.reduceAdd, Nat.reduceSub, List.reduceReplicate]; refine pwx_sr 3 [] (by rfl) fun _ K1 => ?_; simp (disch := omega) only [go_sem]; refine K1 _ ?_; clear K1; refine pwx_sd Tryz.mixed 0 [] (by rfl) [] (by kernel_rfl) (by simp) fun _ K2 => ?_; refine rgnX_take 10 fun _ K3 => ?_; simp (disch := omega) only [go_sem]; refine ⟨_, c_integer_times _ (limbs_dig _) (by omega) _ (limbs_dig _) (by omega), ?_⟩; refine K3 _ ?_; refine rgnX_take 1 fun _ K4 => ?_; simp (disch := omega) only [go_sem]; refine ⟨_, c_integer_signed _ _ (fl_dig _ _) (by simp only [fl_length]; omega), ?_⟩; refine K4 _ ?_; simp (disch := omega) only [go_sem]; refine K2 _ ?_; clear K4 K3 K2; refine pwp_ret ?_; refine ⟨Or.inr rfl, ?_⟩; simp (disch := omega) only [go_sem]; exact congrArg intC (sg_mul x y).symm
set_option maxHeartbeats 4000000 in
theorem c_integer_Sub (x y : Int) (hx : (limbs x.natAbs).length ≤ 1000000) (hy : (limbs y.natAbs).length ≤ 1000000) :
    Ret Tryz.prog 142 [.a (intC x), .a (intC y)] (.e (.a (intC (x - y)))) := by
  refine ret_of_body (md := {}) Tryz.func142 (by kernel_rfl) rfl ?_; simp only [Tryz.f142, go_sem, Nat.reduceAdd, Nat.reduceSub, List.reduceReplicate]; refine pwx_sr 3 [] (by rfl) fun _ K1 => ?_; simp (disch := omega) only [go_sem]; refine K1 _ ?_; clear K1; by_cases hn : y < 0
  · refine pwx_sr 0 [some 5, some 6, some 7, some 8, some 9, some 10, some 11, some 12, some 13, some 14, none] (by rfl) fun _ K2 => ?_; simp (disch := omega) only [go_sem]; refine K2 _ ?_; clear K2; refine pwx_sr 0 [] (by rfl) fun _ K3 => ?_; refine rgnX_take 3 fun _ K4 => ?_; simp (disch := omega) only [go_sem]; refine ⟨_, c_integer_Add _ _ (by omega) (by simp only [Int.natAbs_neg]; omega), ?_⟩; refine K4 _ ?_; simp (disch := omega) only [go_sem]; refine K3 _ ?_; clear K4 K3; refine pwp_ret ?_; refine ⟨Or.inr rfl, ?_⟩; simp (disch := omega) only [go_sem]; rw [← Int.sub_eq_add_neg]
  · refine pwx_sr 0 [some 5, some 6, some 7, some 8, some 9, some 10, some 11, some 12, some 13, some 14, none] (by rfl) fun _ K5 => ?_; simp (disch := omega) only [go_sem]; refine K5 _ ?_; clear K5; refine pwx_sr 0 [] (by rfl) fun _ K6 => ?_; refine rgnX_take 3 fun _ K7 => ?_; simp (disch := omega) only [go_sem]; refine ⟨_, c_integer_Add _ _ (by omega) (by simp only [Int.natAbs_neg]; omega), ?_⟩; refine K7 _ ?_; simp (disch := omega) only [go_sem]; refine K6 _ ?_; clear K7 K6; refine pwp_ret ?_; refine ⟨Or.inr rfl, ?_⟩; simp (disch := omega) only [go_sem]; rw [← Int.sub_eq_add_neg]
set_option maxHeartbeats 4000000 in
theorem c_integer_Neg (x : Int) (hx : (limbs x.natAbs).length ≤ 1000000) :
    Ret Tryz.prog 102 [.a (intC x)] (.e (.a (intC (-x)))) := by
  refine ret_of_body (md := {}) Tryz.func102 (by kernel_rfl) rfl ?_; simp only [Tryz.f102, go_sem, Nat.reduceAdd, Nat.reduceSub, List.reduceReplicate]; refine pwx_sr 2 [] (by rfl) fun _ K1 => ?_; simp (disch := omega) only [go_sem]; refine K1 _ ?_; clear K1; refine pwx_sd Tryz.mixed 1 [] (by rfl) [] (by kernel_rfl) (by simp) fun _ K2 => ?_; refine rgnX_take 7 fun _ K3 => ?_; simp (disch := omega) only [go_sem]; refine ⟨_, c_integer_signed _ _ (limbs_dig _) (by omega), ?_⟩; refine K3 _ ?_; simp (disch := omega) only [go_sem]; refine K2 _ ?_; clear K3 K2; refine pwp_ret ?_; refine ⟨Or.inr rfl, ?_⟩; simp (disch := omega) only [go_sem]; rw [sg_neg]

end Go.Proofs.YtdojhoegildiaaaGreat

namespace Go.PL

theorem len_lit {n k : Nat} (h : n < BS ^ k) (hk : k ≤ 1000000 := by decide) : (limbs n).length ≤ 1000000 := Nat.le_trans (limbs_len h) hk
def wordB (x : Int) : Bool := decide ((limbs x.natAbs).length ≤ 2)
def wordN (x : Int) : Nat := if (limbs x.natAbs).length ≤ 2 then x.natAbs else 0
theorem len1 {n : Nat} (h : (limbs n).length = 1) : dg (limbs n) 0 = n := by
  have hv := limbs_val n
  generalize limbs n = l at *
  match l, h with
  | [a], _ => simpa [val, dg] using hv
theorem len2 {n : Nat} (h : (limbs n).length = 2) : dg (limbs n) 1 * 1000000000 + dg (limbs n) 0 = n := by
  have hv := limbs_val n
  generalize limbs n = l at *
  match l, h with
  | [a, b], _ => simp [val, dg, BS_eq] at hv ⊢; omega
theorem word0 {x : Int} (h : (limbs x.natAbs).length = 0) : wordN x = 0 ∧ wordB x = true := by
  have : x.natAbs = 0 := limbs_eq_nil.1 (List.eq_nil_of_length_eq_zero h)
  simp [wordN, wordB, this, limbs_zero]
theorem word1 {x : Int} (h : (limbs x.natAbs).length = 1) : dg (limbs x.natAbs) 0 = wordN x ∧ wordB x = true := by
  simp [wordN, wordB, h, len1 h]
theorem word2 {x : Int} (h : (limbs x.natAbs).length = 2) : dg (limbs x.natAbs) 1 * 1000000000 + dg (limbs x.natAbs) 0 = wordN x ∧ wordB x = true := by
  simp [wordN, wordB, h, len2 h]
theorem word3 {x : Int} (h : 2 < (limbs x.natAbs).length) : wordN x = 0 ∧ wordB x = false := by
  have : ¬ (limbs x.natAbs).length ≤ 2 := by omega
  simp [wordN, wordB, this]
theorem cmpI_ltz (x y : Int) : (cmpI x y < 0) = (x < y) := by
  unfold cmpI; apply propext; split <;> (try split) <;> omega
theorem cmpI_gtz (x y : Int) : (0 < cmpI x y) = (y < x) := by
  unfold cmpI; apply propext; split <;> (try split) <;> omega
theorem cmpI_gez (x y : Int) : (0 ≤ cmpI x y) = (y ≤ x) := by
  unfold cmpI; apply propext; split <;> (try split) <;> omega
theorem cmpI_lez (x y : Int) : (cmpI x y ≤ 0) = (x ≤ y) := by
  unfold cmpI; apply propext; split <;> (try split) <;> omega
theorem cmpI_eqz (x y : Int) : (cmpI x y = 0) = (x = y) := by
  unfold cmpI; apply propext; split <;> (try split) <;> omega
attribute [go_sem] cmpI_ltz cmpI_gtz cmpI_gez cmpI_lez cmpI_eqz

def vd (l : List Nat) (k : Nat) : Nat := val (l.drop k)
theorem vd_all {l : List Nat} {k : Nat} (h : l.length ≤ k) : vd l k = 0 := by simp [vd, List.drop_eq_nil_of_le h, val]
theorem vd_zero (l : List Nat) : vd l 0 = val l := by simp [vd]
theorem vd_step {l : List Nat} {k : Nat} (h : k < l.length) : vd l k = vd l (k + 1) * 1000000000 + dg l k := by
  unfold vd; rw [drop_cons h, val, BS_eq]; omega
theorem vd_le (l : List Nat) (k : Nat) : vd l k ≤ val l := by
  have h := val_append (l.take k) (l.drop k)
  rw [List.take_append_drop] at h
  have : 1 * val (l.drop k) ≤ BS ^ (l.take k).length * val (l.drop k) := Nat.mul_le_mul_right _ (BS_pos _)
  unfold vd; omega

def fit64 (x : Int) : Bool := decide (-9223372036854775808 ≤ x) && decide (x ≤ 9223372036854775807)
theorem fit64_lo {x : Int} (h : x < -9223372036854775808) : fit64 x = false := by simp [fit64]; omega
theorem fit64_hi {x : Int} (h : 9223372036854775807 < x) : fit64 x = false := by simp [fit64]; omega
theorem fit64_in {x : Int} (h : -9223372036854775808 ≤ x) (h' : x ≤ 9223372036854775807) : fit64 x = true := by simp [fit64, h, h']
theorem wi64_negv {x : Int} (h : x < 0) (h' : -9223372036854775808 ≤ x) : IntKind.i64.wrap (((18446744073709551616 - x.natAbs : Nat) : Int)) = x := by
  unfold IntKind.wrap
  have e : (((18446744073709551616 - x.natAbs : Nat) : Int)) % (2 ^ IntKind.i64.bits : Int) = ((18446744073709551616 - x.natAbs : Nat) : Int) := Int.emod_eq_of_lt (by omega) (by simp only [IntKind.bits]; omega)
  simp only [e]
  rw [if_pos]
  · simp only [IntKind.bits]; omega
  · simp [IntKind.bits, IntKind.signed]; omega
end Go.PL

set_option linter.unusedSimpArgs false
set_option linter.unusedVariables false
set_option maxRecDepth 20000
namespace Go.Proofs.YtdojhoegildiaaaGreat
open Go Go.PL
set_option maxHeartbeats 4000000 in
theorem c_integer_word (x : Int) (hx : (limbs x.natAbs).length ≤ 1000000) :
    Ret Tryz.prog 140 [.a (intC x)] (.t [.c (.int .u64 (wordN x : Int)), .c (.bool (wordB x))]) := by
  refine ret_of_body (md := {}) Tryz.func140 (by kernel_rfl) rfl ?_; simp only [Tryz.f140, go_sem, Nat.reduceAdd, Nat.reduceSub, List.reduceReplicate]; refine pwx_sr 1 [] (by rfl) fun _ K1 => ?_; simp (disch := omega) only [go_sem]; refine K1 _ ?_; clear K1; refine pwp_seq ?_; have hd0 := dg_lt9 (limbs_dig x.natAbs) 0; have hd1 := dg_lt9 (limbs_dig x.natAbs) 1; refine pwx_sr 0 [] (by rfl) fun _ K2 => ?_; simp (disch := omega) only [go_sem]; refine K2 _ ?_; clear K2; refine pwp_block ?_; refine pwx_sr 0 [] (by rfl) fun _ K3 => ?_; simp (disch := omega) only [go_sem]; refine K3 _ ?_; clear K3; refine pwp_cond (b := _) (by rfl) (fun hb0 => ?_) (fun hb0 => ?_)
  · first | replace hb0 := of_decide_eq_true hb0 | skip
    refine pwx_sr 0 [] (by rfl) fun _ K4 => ?_; simp (disch := omega) only [go_sem]; refine K4 _ ?_; clear K4; refine pwp_ret ?_; refine r_block ?_; refine r_then ?_; refine ⟨Or.inr rfl, ?_⟩; simp (disch := omega) only [go_sem]
    rw [(word0 (by omega)).1, (word0 (by omega)).2]; exact ⟨rfl, rfl⟩
  · first | replace hb0 := of_decide_eq_false hb0 | skip
    refine pwx_sr 0 [] (by rfl) fun _ K5 => ?_; simp (disch := omega) only [go_sem]; refine K5 _ ?_; clear K5; refine pwp_cond (b := _) (by rfl) (fun hb1 => ?_) (fun hb1 => ?_)
    · first | replace hb1 := of_decide_eq_true hb1 | skip
      refine pwx_sr 0 [] (by rfl) fun _ K6 => ?_; simp (disch := omega) only [go_sem]; refine K6 _ ?_; clear K6; refine pwp_ret ?_; refine r_block ?_; refine r_then ?_; refine ⟨Or.inr rfl, ?_⟩; simp (disch := omega) only [go_sem]
      rw [(word1 (by omega)).1, (word1 (by omega)).2]; exact ⟨rfl, rfl⟩
    · first | replace hb1 := of_decide_eq_false hb1 | skip
      refine pwx_sr 0 [] (by rfl) fun _ K7 => ?_; simp (disch := omega) only [go_sem]; refine K7 _ ?_; clear K7; refine pwp_cond (b := _) (by rfl) (fun hb2 => ?_) (fun hb2 => ?_)
      · first | replace hb2 := of_decide_eq_true hb2 | skip
        refine pwx_sd Tryz.mixed 0 [] (by rfl) [] (by kernel_rfl) (by simp) fun _ K8 => ?_; simp (disch := omega) only [go_sem]; refine K8 _ ?_; clear K8; refine pwp_ret ?_; refine r_block ?_; refine r_then ?_; refine ⟨Or.inr rfl, ?_⟩; simp (disch := omega) only [go_sem]
        rw [(word2 (by omega)).1, (word2 (by omega)).2]; exact ⟨rfl, rfl⟩
      · first | replace hb2 := of_decide_eq_false hb2 | skip
        refine pwp_skip ?_; refine n_block ?_; refine n_then ?_; refine pwx_sr 0 [] (by rfl) fun _ K9 => ?_; simp (disch := omega) only [go_sem]; refine K9 _ ?_; clear K9; refine pwp_ret ?_; refine ⟨Or.inr rfl, ?_⟩; simp (disch := omega) only [go_sem]
        rw [(word3 (by omega)).1, (word3 (by omega)).2]; exact ⟨rfl, rfl⟩
set_option maxHeartbeats 4000000 in
theorem c_integer_Int64 (x : Int) (hx : (limbs x.natAbs).length ≤ 1000000) :
    Ret Tryz.prog 114 [.a (intC x)] (.t [.c (.int .i64 (if fit64 x then x else 0)), .c (.bool (fit64 x))]) := by
  refine ret_of_body (md := {}) Tryz.func114 (by kernel_rfl) rfl ?_; simp only [Tryz.f114, go_sem, Nat.reduceAdd, Nat.reduceSub, List.reduceReplicate]; refine pwx_sr 1 [] (by rfl) fun _ K1 => ?_; simp (disch := omega) only [go_sem]; refine K1 _ ?_; clear K1; refine pwp_seq ?_; by_cases hn : x < -9223372036854775808
  · refine pwx_sd Tryz.mixed 0 [some 6, some 7, some 8, some 9, some 10, some 11, some 12, some 13, some 14, some 15] (by rfl) [] (by kernel_rfl) (by simp) fun _ K2 => ?_; refine rgnX_take 2 fun _ K3 => ?_; simp (disch := omega) only [go_sem]; refine ⟨_, c_integer_FromInt64 _ (by omega) (by omega), ?_⟩; refine K3 _ ?_; refine rgnX_take 1 fun _ K4 => ?_; simp (disch := omega) only [go_sem]; refine ⟨_, c_integer_Cmp _ _ (by omega) (by exact len_lit (k := 3) (by decide)), ?_⟩; refine K4 _ ?_; refine rgnX_take 4 fun _ K5 => ?_; simp (disch := omega) only [go_sem]
    first | refine ⟨_, c_integer_FromInt64 _ (by omega) (by omega), ?_⟩ | skip
    refine K5 _ ?_; refine rgnX_take 1 fun _ K6 => ?_; simp (disch := omega) only [go_sem]
    first | refine ⟨_, c_integer_Cmp _ _ (by omega) (by exact len_lit (k := 3) (by decide)), ?_⟩ | skip
    refine K6 _ ?_; simp (disch := omega) only [go_sem]; refine K2 _ ?_; clear K6 K5 K4 K3 K2; refine pwp_cond (b := true) (by rfl) (fun _ => ?_) (fun h => nomatch h); refine pwx_sr 0 [] (by rfl) fun _ K7 => ?_; simp (disch := omega) only [go_sem]; refine K7 _ ?_; clear K7; refine pwp_ret ?_; refine r_then ?_; refine ⟨Or.inr rfl, ?_⟩; simp (disch := omega) only [go_sem]
    rw [fit64_lo hn]; exact ⟨rfl, rfl⟩
  · refine pwx_sd Tryz.mixed 0 [some 6, some 7, some 8, some 9, some 10, some 11, some 12, some 13, some 14, some 15] (by rfl) [] (by kernel_rfl) (by simp) fun _ K8 => ?_; refine rgnX_take 2 fun _ K9 => ?_; simp (disch := omega) only [go_sem]; refine ⟨_, c_integer_FromInt64 _ (by omega) (by omega), ?_⟩; refine K9 _ ?_; refine rgnX_take 1 fun _ K10 => ?_; simp (disch := omega) only [go_sem]; refine ⟨_, c_integer_Cmp _ _ (by omega) (by exact len_lit (k := 3) (by decide)), ?_⟩; refine K10 _ ?_; refine rgnX_take 4 fun _ K11 => ?_; simp (disch := omega) only [go_sem]
    first | refine ⟨_, c_integer_FromInt64 _ (by omega) (by omega), ?_⟩ | skip
    refine K11 _ ?_; refine rgnX_take 1 fun _ K12 => ?_; simp (disch := omega) only [go_sem]
    first | refine ⟨_, c_integer_Cmp _ _ (by omega) (by exact len_lit (k := 3) (by decide)), ?_⟩ | skip
    refine K12 _ ?_; simp (disch := omega) only [go_sem]; refine K8 _ ?_; clear K12 K11 K10 K9 K8; refine pwp_cond (b := _) (by rfl) (fun hb1 => ?_) (fun hb1 => ?_)
    · first | replace hb1 := of_decide_eq_true hb1 | skip
      refine pwx_sr 0 [] (by rfl) fun _ K13 => ?_; simp (disch := omega) only [go_sem]; refine K13 _ ?_; clear K13; refine pwp_ret ?_; refine r_then ?_; refine ⟨Or.inr rfl, ?_⟩; simp (disch := omega) only [go_sem]
      rw [fit64_hi hb1]; exact ⟨rfl, rfl⟩
    · first | replace hb1 := of_decide_eq_false hb1 | skip
      refine pwp_skip ?_; refine n_then ?_; refine pwx_sr 0 [] (by rfl) fun _ K14 => ?_; simp (disch := omega) only [go_sem]; refine K14 _ ?_; clear K14; refine pwp_seq ?_; refine pwx_sr 0 [] (by rfl) fun _ K15 => ?_; simp (disch := omega) only [go_sem]; refine K15 _ ?_; clear K15; refine pwp_block ?_; refine pwp_loopF (false :: true :: false :: false :: true :: true :: false :: false :: false :: false :: false :: false :: false :: false :: false :: false :: false :: false :: false :: false :: false :: false :: false :: false :: false :: false :: false :: false :: false :: false :: false :: false :: false :: false :: false :: false :: false :: false :: false :: []) 1 (fun M s => ∃ k : Nat, ∃ u : Nat, (k ≤ (limbs x.natAbs).length) ∧ (u = vd (limbs x.natAbs) k) ∧ k = M ∧ s = { slots := .j :: .e (.c (.ptr 0 0)) :: .j :: .j :: .e (.c (.int .u64 (u : Int))) :: .e (.c (.int .i64 ((k : Int) - 1))) :: .j :: .j :: .j :: .j :: .j :: .j :: .j :: .j :: .j :: .j :: .j :: .j :: .j :: .j :: .j :: .j :: .j :: .j :: .j :: .j :: .j :: .j :: .j :: .j :: .j :: .j :: .j :: .j :: .j :: .j :: .j :: .j :: .j :: [], st := [.live (intC x)] }) (n := (limbs x.natAbs).length) rfl ?_ ?_ ?_
      · refine ⟨(limbs x.natAbs).length, 0, ?_, ?_, rfl, ?_⟩
        · omega
        · rw [vd_all (Nat.le_refl _)]
        · first | rfl | simp [St.cut, keep]
      · refine ⟨rfl, ?_, ?_⟩ <;> first | rfl | (simp [keep, PV.lt, PE.lt, PC.lt, Box.lt, ↓lC_lt]; done) | simp [keep, PV.lt, PE.lt, PC.lt, Box.lt, ↓lC_lt, ↓intC_lt, ↓ratC_lt, ↓u32s_lt]
      · rintro _ _ ⟨k, u, hk, hu, rfl, rfl⟩
        refine pwp_seq ?_; refine pwx_sr 0 [] (by rfl) fun _ K16 => ?_; simp (disch := omega) only [go_sem]; refine K16 _ ?_; clear K16; refine pwp_cond (b := _) (by rfl) (fun hb2 => ?_) (fun hb2 => ?_)
        · replace hb2 := of_decide_eq_true hb2; obtain ⟨k, rfl⟩ : ∃ j, k = j + 1 := ⟨k - 1, by omega⟩; have hd := dg_lt9 (limbs_dig x.natAbs) k; have hv := vd_step (l := limbs x.natAbs) (k := k) (by omega); subst hu; have hw := vd_le (limbs x.natAbs) k; rw [hv] at hw; rw [limbs_val] at hw; refine pwp_skip ?_; refine n_then ?_; refine pwp_seq ?_; refine pwp_block ?_; refine pwx_region 0 [] (by rfl) fun _ K17 => ?_; simp (disch := omega) only [go_sem]; refine K17 _ ?_; clear K17; refine n_block ?_; refine n_then ?_; refine pwx_region 0 [] (by rfl) fun _ K18 => ?_; simp (disch := omega) only [go_sem]; refine K18 _ ?_; clear K18; refine n_then ?_; refine ⟨_, ?hdec, ⟨k, vd (limbs x.natAbs) (k + 1) * 1000000000 + dg (limbs x.natAbs) k, ?hf0, ?hf1, rfl, ?heq⟩, ?hok⟩
          case heq => first | rfl | simp [St.cut, keep]
          case hf0 => omega
          case hf1 => exact hv.symm
          case hdec => omega
          case hok => refine ⟨rfl, ?_, ?_⟩ <;> first | rfl | (simp [keep, PV.lt, PE.lt, PC.lt, Box.lt, ↓lC_lt]; done) | simp [keep, PV.lt, PE.lt, PC.lt, Box.lt, ↓lC_lt, ↓intC_lt, ↓ratC_lt, ↓u32s_lt]
        · replace hb2 := of_decide_eq_false hb2
          obtain rfl : k = 0 := by omega
          rw [vd_zero, limbs_val] at hu; subst hu; refine pwp_exit ?_; refine e_then ?_; refine e_then ?_; refine e_here ?_; refine n_then ?_; refine pwp_seq ?_; refine pwx_sr 0 [] (by rfl) fun _ K19 => ?_; simp (disch := omega) only [go_sem]; refine K19 _ ?_; clear K19; refine pwp_cond (b := _) (by rfl) (fun hb3 => ?_) (fun hb3 => ?_)
          · first | replace hb3 := of_decide_eq_true hb3 | skip
            refine pwx_region 0 [] (by rfl) fun _ K20 => ?_; simp (disch := omega) only [go_sem]; refine K20 _ ?_; clear K20; refine n_then ?_; refine pwx_sr 0 [] (by rfl) fun _ K21 => ?_; simp (disch := omega) only [go_sem]; refine K21 _ ?_; clear K21; refine pwp_ret ?_; refine ⟨Or.inr rfl, ?_⟩; simp (disch := omega) only [go_sem]
            rw [wu64_ng (by omega) (by omega), wi64_negv hb3 (by omega), fit64_in (by omega) (by omega)]; exact ⟨rfl, rfl⟩
          · first | replace hb3 := of_decide_eq_false hb3 | skip
            refine pwp_skip ?_; refine n_then ?_; refine pwx_sr 0 [] (by rfl) fun _ K22 => ?_; simp (disch := omega) only [go_sem]; refine K22 _ ?_; clear K22; refine pwp_ret ?_; refine ⟨Or.inr rfl, ?_⟩; simp (disch := omega) only [go_sem]
            rw [fit64_in (by omega) (by omega), show ((x.natAbs : Nat) : Int) = x by omega]; exact ⟨rfl, rfl⟩

end Go.Proofs.YtdojhoegildiaaaGreat

namespace Go.PL

def win (l : List Nat) (off i : Nat) : Nat := vt (l.drop off) i
theorem dg_drop (l : List Nat) (off i : Nat) : dg (l.drop off) i = dg l (off + i) := by
  simp only [dg, List.getD_eq_getElem?_getD, List.getElem?_drop]
theorem win_zero (l : List Nat) (off : Nat) : win l off 0 = 0 := vt_zero _
theorem win_succ (l : List Nat) (off i : Nat) : win l off (i + 1) = win l off i + BS ^ i * dg l (off + i) := by
  unfold win; rw [vt_succ, dg_drop]
theorem win_congr {l m : List Nat} {off i : Nat} (h : ∀ j, off ≤ j → j < off + i → dg l j = dg m j) : win l off i = win m off i := by
  induction i with
  | zero => rw [win_zero, win_zero]
  | succ i ih => rw [win_succ, win_succ, ih fun j h1 h2 => h j h1 (by omega), h (off + i) (by omega) (by omega)]
theorem win_lt {l : List Nat} {off i : Nat} (h : ∀ j, off ≤ j → j < off + i → dg l j < BS) : win l off i < BS ^ i := by
  induction i with
  | zero => rw [win_zero]; exact BS_pos 0
  | succ i ih =>
    have h1 := ih fun j h1 h2 => h j h1 (by omega)
    have h2 := h (off + i) (by omega) (by omega)
    rw [win_succ, Nat.pow_succ]
    have : BS ^ i * (dg l (off + i) + 1) ≤ BS ^ i * BS := Nat.mul_le_mul_left _ h2
    rw [Nat.mul_add, Nat.mul_one] at this
    omega

structure SubI (W v : List Nat) (b off i : Nat) (W' : List Nat) (c r : Nat) : Prop where
  len : W'.length = W.length
  out : ∀ j, j < off ∨ off + i ≤ j → dg W' j = dg W j
  dig : ∀ j, off ≤ j → j < off + i → dg W' j < BS
  eq : win W off i + BS ^ i * (r + c) = win W' off i + b * vt v i
  r1 : r ≤ 1
  cb : c ≤ b
theorem SubI.zero (W v : List Nat) (b off : Nat) : SubI W v b off 0 W 0 0 := ⟨rfl, fun _ _ => rfl, fun j h1 h2 => by omega, by simp [win_zero], by omega, by omega⟩
theorem SubI.step {W v W' : List Nat} {b off i c r x r' : Nat} (h : SubI W v b off i W' c r) (hv : Dig v) (hi : off + i < W.length) (hx : x < BS) (hr : r' ≤ 1)
    (he : dg W (off + i) + BS * r' = x + ((c + dg v i * b) % BS + r)) : SubI W v b off (i + 1) (W'.set (off + i) x) ((c + dg v i * b) / BS) r' := by
  refine ⟨by rw [List.length_set]; exact h.len, fun j hj => ?_, fun j h1 h2 => ?_, ?_, hr, ?_⟩
  · rw [dg_set_ne (by omega)]; exact h.out j (by omega)
  · by_cases hji : off + i = j
    · subst hji; rw [dg_set (by rw [h.len]; omega)]; exact hx
    · rw [dg_set_ne hji]; exact h.dig j h1 (by omega)
  · rw [win_succ, win_succ, vt_succ, dg_set (by rw [h.len]; omega)]
    have h1 : win (W'.set (off + i) x) off i = win W' off i := win_congr fun j h1 h2 => dg_set_ne (by omega)
    rw [h1]
    have h2 := h.eq
    have h3 := Nat.div_add_mod (c + dg v i * b) BS
    generalize (c + dg v i * b) / BS = q at *
    generalize (c + dg v i * b) % BS = m at *
    rw [Nat.pow_succ]
    have h4 : BS ^ i * (dg W (off + i) + BS * r') = BS ^ i * (x + (m + r)) := by rw [he]
    have h5 : BS ^ i * (BS * q + m) = BS ^ i * (c + dg v i * b) := by rw [h3]
    simp only [Nat.mul_add] at h2 h4 h5 ⊢
    have e1 : BS ^ i * BS * r' = BS ^ i * (BS * r') := Nat.mul_assoc _ _ _
    have e2 : BS ^ i * BS * q = BS ^ i * (BS * q) := Nat.mul_assoc _ _ _
    have e3 : b * (BS ^ i * dg v i) = BS ^ i * (dg v i * b) := by rw [Nat.mul_left_comm, Nat.mul_comm b]
    rw [e1, e2, e3]
    omega
  · have hd := dg_lt hv i
    have h3 : c + dg v i * b < BS * (b + 1) := by
      have h4 : (dg v i + 1) * b ≤ BS * b := Nat.mul_le_mul_right _ hd
      rw [Nat.add_mul, Nat.one_mul] at h4
      have := h.cb
      rw [Nat.mul_add, Nat.mul_one]
      have : 0 < BS := by decide
      omega
    exact Nat.le_of_lt_succ (Nat.div_lt_of_lt_mul h3)
theorem SubI.stp {W v W' : List Nat} {b off i c r x r' t : Nat} (h : SubI W v b off i W' c r) (hv : Dig v) (hi : off + i < W.length) (ht : t = c + dg v i * b) (hx : x < 1000000000) (hr : r' ≤ 1)
    (he : dg W (off + i) + 1000000000 * r' = x + (t % 1000000000 + r)) : SubI W v b off (i + 1) (W'.set (off + i) x) (t / 1000000000) r' := by
  subst ht; exact h.step hv hi hx hr he
structure SubR (W v : List Nat) (b off n : Nat) (W' : List Nat) (neg : Bool) : Prop where
  len : W'.length = W.length
  out : ∀ j, j < off ∨ off + n ≤ j → dg W' j = dg W j
  dig : ∀ j, off ≤ j → j < off + n → dg W' j < BS
  eq : ∃ t, win W off n + BS ^ n * t = win W' off n + b * val v ∧ neg = decide (0 < t)
theorem SubI.done {W v W' : List Nat} {b off n c r : Nat} {neg : Bool} (h : SubI W v b off n W' c r) (hn : v.length ≤ n) (hneg : neg = decide (0 < r + c)) : SubR W v b off n W' neg :=
  ⟨h.len, h.out, h.dig, r + c, by rw [← vt_all hn]; exact h.eq, hneg⟩
structure ResI (W v : List Nat) (off i : Nat) (W' : List Nat) (c : Nat) : Prop where
  len : W'.length = W.length
  out : ∀ j, j < off ∨ off + i ≤ j → dg W' j = dg W j
  dig : ∀ j, off ≤ j → j < off + i → dg W' j < BS
  eq : win W off i + vt v i = win W' off i + BS ^ i * c
  c1 : c ≤ 1
theorem ResI.zero (W v : List Nat) (off : Nat) : ResI W v off 0 W 0 := ⟨rfl, fun _ _ => rfl, fun j h1 h2 => by omega, by simp [win_zero], by omega⟩
theorem ResI.step {W v W' : List Nat} {off i c x c' : Nat} (h : ResI W v off i W' c) (hi : off + i < W.length) (hx : x < BS) (hr : c' ≤ 1)
    (he : dg W (off + i) + c + dg v i = x + BS * c') : ResI W v off (i + 1) (W'.set (off + i) x) c' := by
  refine ⟨by rw [List.length_set]; exact h.len, fun j hj => ?_, fun j h1 h2 => ?_, ?_, hr⟩
  · rw [dg_set_ne (by omega)]; exact h.out j (by omega)
  · by_cases hji : off + i = j
    · subst hji; rw [dg_set (by rw [h.len]; omega)]; exact hx
    · rw [dg_set_ne hji]; exact h.dig j h1 (by omega)
  · rw [win_succ, win_succ, vt_succ, dg_set (by rw [h.len]; omega)]
    have h1 : win (W'.set (off + i) x) off i = win W' off i := win_congr fun j h1 h2 => dg_set_ne (by omega)
    rw [h1]
    have h2 := h.eq
    rw [Nat.pow_succ]
    have h4 : BS ^ i * (dg W (off + i) + c + dg v i) = BS ^ i * (x + BS * c') := by rw [he]
    simp only [Nat.mul_add] at h2 h4 ⊢
    have e1 : BS ^ i * BS * c' = BS ^ i * (BS * c') := Nat.mul_assoc _ _ _
    rw [e1]
    omega
theorem ResI.stp {W v W' : List Nat} {off i c x c' : Nat} (h : ResI W v off i W' c) (hi : off + i < W.length) (hx : x < 1000000000) (hr : c' ≤ 1)
    (he : dg W (off + i) + c + dg v i = x + 1000000000 * c') : ResI W v off (i + 1) (W'.set (off + i) x) c' := h.step hi hx hr he
structure ResR (W v : List Nat) (off n : Nat) (W' : List Nat) : Prop where
  len : W'.length = W.length
  out : ∀ j, j < off ∨ off + n ≤ j → dg W' j = dg W j
  dig : ∀ j, off ≤ j → j < off + n → dg W' j < BS
  eq : ∃ t, win W off n + val v = win W' off n + BS ^ n * t
theorem ResI.done {W v W' : List Nat} {off n c : Nat} (h : ResI W v off n W' c) (hn : v.length ≤ n) : ResR W v off n W' :=
  ⟨h.len, h.out, h.dig, c, by rw [← vt_all hn]; exact h.eq⟩
end Go.PL

set_option linter.unusedSimpArgs false
set_option linter.unusedVariables false
set_option maxRecDepth 20000
namespace Go.Proofs.YtdojhoegildiaaaGreat
open Go Go.PL
set_option maxHeartbeats 4000000 in
theorem c_integer_subtract (W v : List Nat) (hdv : Dig v) (off n cap : Nat) (hw : off + n ≤ W.length) (hl : n ≤ 4000000) (hvn : v.length ≤ n) (hdW : ∀ j, off ≤ j → j < off + n → dg W j < BS) (b : Nat) (hb : b ≤ 2000000000) (id : Nat) (σ : List Box) (hid : σ[id]? = some (.live (u32s W))) :
    RetM Tryz.prog 146 (.c (.msl id off n cap 1) :: [.c (lC v), .c (.int .u64 (b : Int))]) σ fun r' σ' => ∃ cs', (fun r' cs' => ∃ W' neg, SubR W v b off n W' neg ∧ r' = .e (.c (.bool neg)) ∧ cs' = u32s W') r' cs' ∧ σ' = σ.set id (.live cs') := by
  refine retW_of_body (md := { fz := false }) Tryz.func146 (by kernel_rfl) rfl rfl rfl (u32s_im _) (fun r' cs' => ∃ W' neg, SubR W v b off n W' neg ∧ r' = .e (.c (.bool neg)) ∧ cs' = u32s W') ?_ id σ hid; simp only [Tryz.f146, List.map_cons, List.map_nil, List.length_cons, List.length_nil, Nat.zero_add, List.cons_append, List.nil_append, Nat.reduceAdd, Nat.reduceSub, List.reduceReplicate]; refine pwx_sr 0 [] (by rfl) fun _ K1 => ?_; simp (disch := omega) only [go_sem]; refine K1 _ ?_; clear K1; refine pwx_sr 0 [] (by rfl) fun _ K2 => ?_; simp (disch := omega) only [go_sem]; refine K2 _ ?_; clear K2; refine pwp_seq ?_; refine pwx_sr 0 [] (by rfl) fun _ K3 => ?_; simp (disch := omega) only [go_sem]; refine K3 _ ?_; clear K3; refine pwp_block ?_; refine pwp_loopS (true :: true :: true :: false :: false :: false :: false :: true :: true :: false :: false :: false :: false :: false :: true :: true :: false :: false :: false :: false :: false :: false :: false :: false :: false :: false :: false :: false :: false :: false :: false :: false :: false :: false :: false :: false :: false :: false :: false :: false :: false :: false :: false :: false :: false :: false :: false :: false :: false :: false :: false :: false :: false :: false :: false :: false :: false :: false :: false :: false :: false :: false :: []) (fun M s => ∃ i : Nat, ∃ W' : List Nat, ∃ c : Nat, ∃ r : Nat, (i ≤ n) ∧ (SubI W v b off i W' c r) ∧ n - i = M ∧ s = { slots := .e (.c (.msl 0 off n cap 1)) :: .e (.c (lC v)) :: .e (.c (.int .u64 (b : Int))) :: .j :: .j :: .j :: .j :: .e (.c (.int .u64 (c : Int))) :: .e (.c (.int .u64 (r : Int))) :: .j :: .j :: .j :: .j :: .j :: .e (.c (.int .i64 (n : Int))) :: .e (.c (.int .i64 (i : Int))) :: .j :: .j :: .j :: .j :: .j :: .j :: .j :: .j :: .j :: .j :: .j :: .j :: .j :: .j :: .j :: .j :: .j :: .j :: .j :: .j :: .j :: .j :: .j :: .j :: .j :: .j :: .j :: .j :: .j :: .j :: .j :: .j :: .j :: .j :: .j :: .j :: .j :: .j :: .j :: .j :: .j :: .j :: .j :: .j :: .j :: .j :: [], st := [.live (u32s W')] }) (n := n - 0) ?_ rfl ?_
  · refine ⟨0, W, 0, 0, ?_, ?_, rfl, ?_⟩
    · omega
    · exact SubI.zero W v b off
    · first | rfl | simp [St.cut, keep]
  · rintro _ _ ⟨i, W', c, r, hi, hS, rfl, rfl⟩
    have hlen := hS.len; have hcb := hS.cb; have hr1 := hS.r1; have hdv9 := dg_lt9 hdv i; have ho := hS.out (off + i) (.inr (Nat.le_refl _)); have hm : dg v i * b ≤ 999999999 * b := Nat.mul_le_mul_right b (by omega); refine pwx_sr 0 [] (by rfl) fun _ K4 => ?_; simp (disch := omega) only [go_sem]; refine K4 _ ?_; clear K4; refine pwp_seq ?_; refine pwp_cond (b := _) (by rfl) (fun hb0 => ?_) (fun hb0 => ?_)
    · replace hb0 := of_decide_eq_true hb0; have hdW9 : dg W (off + i) < 1000000000 := hdW (off + i) (by omega) (by omega); refine pwp_skip ?_; refine n_then ?_; refine pwp_seq ?_; refine pwp_block ?_; refine pwx_sr 0 [] (by rfl) fun _ K5 => ?_; simp (disch := omega) only [go_sem]; refine K5 _ ?_; clear K5; refine pwx_sr 0 [] (by rfl) fun _ K6 => ?_; simp (disch := omega) only [go_sem]; refine K6 _ ?_; clear K6; refine pwp_seq ?_; refine pwx_sr 0 [] (by rfl) fun _ K7 => ?_; simp (disch := omega) only [go_sem]; refine K7 _ ?_; clear K7; refine pwp_cond (b := _) (by rfl) (fun hb1 => ?_) (fun hb1 => ?_)
      · first | replace hb1 := of_decide_eq_true hb1 | skip
        refine pwx_region 0 [] (by rfl) fun _ K8 => ?_; simp (disch := omega) only [go_sem]; refine K8 _ ?_; clear K8; refine n_then ?_; refine pwx_sr 0 [] (by rfl) fun _ K9 => ?_; simp (disch := omega) only [go_sem]; refine K9 _ ?_; clear K9; refine pwx_sr 0 [] (by rfl) fun _ K10 => ?_; simp (disch := omega) only [go_sem]; refine K10 _ ?_; clear K10; refine pwx_sr 0 [] (by rfl) fun _ K11 => ?_; simp (disch := omega) only [go_sem]; refine K11 _ ?_; clear K11; refine pwx_sr 0 [] (by rfl) fun _ K12 => ?_; simp (disch := omega) only [go_sem, ho]; refine K12 _ ?_; clear K12; refine pwp_seq ?_; refine pwx_sr 0 [] (by rfl) fun _ K13 => ?_; simp (disch := omega) only [go_sem]; refine K13 _ ?_; clear K13; refine pwp_cond (b := _) (by rfl) (fun hb2 => ?_) (fun hb2 => ?_)
        · first | replace hb2 := of_decide_eq_true hb2 | skip
          refine pwx_region 0 [] (by rfl) fun _ K14 => ?_; simp (disch := omega) only [go_sem]; refine K14 _ ?_; clear K14; refine n_then ?_; refine pwx_region 0 [] (by rfl) fun _ K15 => ?_; simp (disch := omega) only [go_sem]; refine K15 _ ?_; clear K15; refine n_block ?_; refine n_then ?_; refine pwx_region 0 [] (by rfl) fun _ K16 => ?_; simp (disch := omega) only [go_sem]; refine K16 _ ?_; clear K16; refine n_then ?_; refine ⟨_, ?hdec, ⟨i + 1, W'.set (off + i) (dg W (off + i) + 1000000000 - ((c + dg v i * b) % 1000000000 + r)), (c + dg v i * b) / 1000000000, 1, ?hf0, ?hf1, rfl, ?heq⟩, ?hok⟩
          case heq => first | rfl | simp [St.cut, keep]
          case hf0 => omega
          case hf1 => exact hS.stp hdv (by omega) rfl (by omega) (by omega) (by omega)
          case hdec => omega
          case hok => rfl
        · first | replace hb2 := of_decide_eq_false hb2 | skip
          refine pwp_skip ?_; refine n_then ?_; refine pwx_region 0 [] (by rfl) fun _ K17 => ?_; simp (disch := omega) only [go_sem]; refine K17 _ ?_; clear K17; refine n_block ?_; refine n_then ?_; refine pwx_region 0 [] (by rfl) fun _ K18 => ?_; simp (disch := omega) only [go_sem]; refine K18 _ ?_; clear K18; refine n_then ?_; refine ⟨_, ?hdec, ⟨i + 1, W'.set (off + i) (dg W (off + i) - ((c + dg v i * b) % 1000000000 + r)), (c + dg v i * b) / 1000000000, 0, ?hf0, ?hf1, rfl, ?heq⟩, ?hok⟩
          case heq => first | rfl | simp [St.cut, keep]
          case hf0 => omega
          case hf1 => exact hS.stp hdv (by omega) rfl (by omega) (by omega) (by omega)
          case hdec => omega
          case hok => rfl
      · first | replace hb1 := of_decide_eq_false hb1 | skip
        refine pwp_skip ?_; refine n_then ?_; refine pwx_sr 0 [] (by rfl) fun _ K19 => ?_; simp (disch := omega) only [go_sem]; refine K19 _ ?_; clear K19; refine pwx_sr 0 [] (by rfl) fun _ K20 => ?_; simp (disch := omega) only [go_sem]; refine K20 _ ?_; clear K20; refine pwx_sr 0 [] (by rfl) fun _ K21 => ?_; simp (disch := omega) only [go_sem]; refine K21 _ ?_; clear K21; refine pwx_sr 0 [] (by rfl) fun _ K22 => ?_; simp (disch := omega) only [go_sem, ho]; refine K22 _ ?_; clear K22; refine pwp_seq ?_; refine pwx_sr 0 [] (by rfl) fun _ K23 => ?_; simp (disch := omega) only [go_sem]; refine K23 _ ?_; clear K23; refine pwp_cond (b := _) (by rfl) (fun hb3 => ?_) (fun hb3 => ?_)
        · first | replace hb3 := of_decide_eq_true hb3 | skip
          refine pwx_region 0 [] (by rfl) fun _ K24 => ?_; simp (disch := omega) only [go_sem]; refine K24 _ ?_; clear K24; refine n_then ?_; refine pwx_region 0 [] (by rfl) fun _ K25 => ?_; simp (disch := omega) only [go_sem]; refine K25 _ ?_; clear K25; refine n_block ?_; refine n_then ?_; refine pwx_region 0 [] (by rfl) fun _ K26 => ?_; simp (disch := omega) only [go_sem]; refine K26 _ ?_; clear K26; refine n_then ?_
          have hz : c = c + dg v i * b := by rw [dg_out (by omega), Nat.zero_mul, Nat.add_zero]
          refine ⟨_, ?hdec, ⟨i + 1, W'.set (off + i) (dg W (off + i) + 1000000000 - (c % 1000000000 + r)), c / 1000000000, 1, ?hf0, ?hf1, rfl, ?heq⟩, ?hok⟩
          case heq => first | rfl | simp [St.cut, keep]
          case hf0 => omega
          case hf1 => exact hS.stp hdv (by omega) hz (by omega) (by omega) (by omega)
          case hdec => omega
          case hok => rfl
        · first | replace hb3 := of_decide_eq_false hb3 | skip
          refine pwp_skip ?_; refine n_then ?_; refine pwx_region 0 [] (by rfl) fun _ K27 => ?_; simp (disch := omega) only [go_sem]; refine K27 _ ?_; clear K27; refine n_block ?_; refine n_then ?_; refine pwx_region 0 [] (by rfl) fun _ K28 => ?_; simp (disch := omega) only [go_sem]; refine K28 _ ?_; clear K28; refine n_then ?_
          have hz : c = c + dg v i * b := by rw [dg_out (by omega), Nat.zero_mul, Nat.add_zero]
          refine ⟨_, ?hdec, ⟨i + 1, W'.set (off + i) (dg W (off + i) - (c % 1000000000 + r)), c / 1000000000, 0, ?hf0, ?hf1, rfl, ?heq⟩, ?hok⟩
          case heq => first | rfl | simp [St.cut, keep]
          case hf0 => omega
          case hf1 => exact hS.stp hdv (by omega) hz (by omega) (by omega) (by omega)
          case hdec => omega
          case hok => rfl
    · replace hb0 := of_decide_eq_false hb0
      obtain rfl : i = n := by omega
      refine pwp_exit ?_; refine e_then ?_; refine e_then ?_; refine e_here ?_; refine n_then ?_; by_cases hr0 : 0 < r
      · refine pwx_sr 0 [some 56, some 57, some 58, some 59, some 60, some 61, some 6] (by rfl) fun _ K29 => ?_; simp (disch := omega) only [go_sem]; refine K29 _ ?_; clear K29; refine pwp_ret ?_; refine ⟨Or.inr rfl, _, rfl, rfl, _, u32s_im _, ?_, _, rfl⟩; exact ⟨W', true, hS.done hvn (by simp; omega), rfl, rfl⟩
      · refine pwx_sr 0 [some 56, some 57, some 58, some 59, some 60, some 61, some 6] (by rfl) fun _ K30 => ?_; simp (disch := omega) only [go_sem]; refine K30 _ ?_; clear K30; refine pwp_ret ?_; refine ⟨Or.inr rfl, _, rfl, rfl, _, u32s_im _, ?_, _, rfl⟩; exact ⟨W', _, hS.done hvn (decide_eq_decide.2 (by omega)), rfl, rfl⟩
set_option maxHeartbeats 4000000 in
theorem c_integer_restore (W v : List Nat) (hdv : Dig v) (off n cap : Nat) (hw : off + n ≤ W.length) (hl : n ≤ 4000000) (hvn : v.length ≤ n) (hdW : ∀ j, off ≤ j → j < off + n → dg W j < BS) (id : Nat) (σ : List Box) (hid : σ[id]? = some (.live (u32s W))) :
    RetM Tryz.prog 147 (.c (.msl id off n cap 1) :: [.c (lC v)]) σ fun r' σ' => ∃ cs', (fun r' cs' => ∃ W', ResR W v off n W' ∧ r' = .t [] ∧ cs' = u32s W') r' cs' ∧ σ' = σ.set id (.live cs') := by
  refine retW_of_body (md := { fz := false }) Tryz.func147 (by kernel_rfl) rfl rfl rfl (u32s_im _) (fun r' cs' => ∃ W', ResR W v off n W' ∧ r' = .t [] ∧ cs' = u32s W') ?_ id σ hid; simp only [Tryz.f147, List.map_cons, List.map_nil, List.length_cons, List.length_nil, Nat.zero_add, List.cons_append, List.nil_append, Nat.reduceAdd, Nat.reduceSub, List.reduceReplicate]; refine pwx_sr 0 [] (by rfl) fun _ K1 => ?_; simp (disch := omega) only [go_sem]; refine K1 _ ?_; clear K1; refine pwx_sr 0 [] (by rfl) fun _ K2 => ?_; simp (disch := omega) only [go_sem]; refine K2 _ ?_; clear K2; refine pwp_block ?_; refine pwp_loopS (true :: true :: false :: false :: true :: false :: false :: false :: true :: true :: false :: false :: false :: false :: false :: false :: false :: false :: false :: false :: false :: false :: false :: false :: false :: false :: false :: false :: false :: false :: false :: false :: false :: false :: false :: false :: false :: []) (fun M s => ∃ i : Nat, ∃ W' : List Nat, ∃ c : Nat, (i ≤ n) ∧ (ResI W v off i W' c) ∧ n - i = M ∧ s = { slots := .e (.c (.msl 0 off n cap 1)) :: .e (.c (lC v)) :: .j :: .j :: .e (.c (.int .u32 (c : Int))) :: .j :: .j :: .j :: .e (.c (.int .i64 (n : Int))) :: .e (.c (.int .i64 (i : Int))) :: .j :: .j :: .j :: .j :: .j :: .j :: .j :: .j :: .j :: .j :: .j :: .j :: .j :: .j :: .j :: .j :: .j :: .j :: .j :: .j :: .j :: .j :: .j :: .j :: .j :: .j :: .j :: [], st := [.live (u32s W')] }) (n := n - 0) ?_ rfl ?_
  · refine ⟨0, W, 0, ?_, ?_, rfl, ?_⟩
    · omega
    · exact ResI.zero W v off
    · first | rfl | simp [St.cut, keep]
  · rintro _ _ ⟨i, W', c, hi, hS, rfl, rfl⟩
    have hlen := hS.len; have hcb := hS.c1; have hdv9 := dg_lt9 hdv i; have ho := hS.out (off + i) (.inr (Nat.le_refl _)); refine pwx_sr 0 [] (by rfl) fun _ K3 => ?_; simp (disch := omega) only [go_sem]; refine K3 _ ?_; clear K3; refine pwp_seq ?_; refine pwp_cond (b := _) (by rfl) (fun hb0 => ?_) (fun hb0 => ?_)
    · replace hb0 := of_decide_eq_true hb0; have hdW9 : dg W (off + i) < 1000000000 := hdW (off + i) (by omega) (by omega); refine pwp_skip ?_; refine n_then ?_; refine pwp_seq ?_; refine pwp_block ?_; refine pwx_sr 0 [] (by rfl) fun _ K4 => ?_; simp (disch := omega) only [go_sem]; refine K4 _ ?_; clear K4; refine pwx_sr 0 [] (by rfl) fun _ K5 => ?_; simp (disch := omega) only [go_sem, ho]; refine K5 _ ?_; clear K5; refine pwp_seq ?_; refine pwx_sr 0 [] (by rfl) fun _ K6 => ?_; simp (disch := omega) only [go_sem]; refine K6 _ ?_; clear K6; refine pwp_cond (b := _) (by rfl) (fun hb1 => ?_) (fun hb1 => ?_)
      · first | replace hb1 := of_decide_eq_true hb1 | skip
        refine pwx_region 0 [] (by rfl) fun _ K7 => ?_; simp (disch := omega) only [go_sem]; refine K7 _ ?_; clear K7; refine n_then ?_; refine pwx_sr 0 [] (by rfl) fun _ K8 => ?_; simp (disch := omega) only [go_sem]; refine K8 _ ?_; clear K8; refine pwp_seq ?_; refine pwx_sr 0 [] (by rfl) fun _ K9 => ?_; simp (disch := omega) only [go_sem]; refine K9 _ ?_; clear K9; refine pwp_cond (b := _) (by rfl) (fun hb2 => ?_) (fun hb2 => ?_)
        · first | replace hb2 := of_decide_eq_true hb2 | skip
          refine pwx_region 0 [] (by rfl) fun _ K10 => ?_; simp (disch := omega) only [go_sem]; refine K10 _ ?_; clear K10; refine n_then ?_; refine pwx_region 0 [] (by rfl) fun _ K11 => ?_; simp (disch := omega) only [go_sem]; refine K11 _ ?_; clear K11; refine n_block ?_; refine n_then ?_; refine pwx_region 0 [] (by rfl) fun _ K12 => ?_; simp (disch := omega) only [go_sem]; refine K12 _ ?_; clear K12; refine n_then ?_; refine ⟨_, ?hdec, ⟨i + 1, W'.set (off + i) (dg W (off + i) + c + dg v i - 1000000000), 1, ?hf0, ?hf1, rfl, ?heq⟩, ?hok⟩
          case heq => first | rfl | simp [St.cut, keep]
          case hf0 => omega
          case hf1 => exact hS.stp (by omega) (by omega) (by omega) (by omega)
          case hdec => omega
          case hok => rfl
        · first | replace hb2 := of_decide_eq_false hb2 | skip
          refine pwp_skip ?_; refine n_then ?_; refine pwx_region 0 [] (by rfl) fun _ K13 => ?_; simp (disch := omega) only [go_sem]; refine K13 _ ?_; clear K13; refine n_block ?_; refine n_then ?_; refine pwx_region 0 [] (by rfl) fun _ K14 => ?_; simp (disch := omega) only [go_sem]; refine K14 _ ?_; clear K14; refine n_then ?_; refine ⟨_, ?hdec, ⟨i + 1, W'.set (off + i) (dg W (off + i) + c + dg v i), 0, ?hf0, ?hf1, rfl, ?heq⟩, ?hok⟩
          case heq => first | rfl | simp [St.cut, keep]
          case hf0 => omega
          case hf1 => exact hS.stp (by omega) (by omega) (by omega) (by omega)
          case hdec => omega
          case hok => rfl
      · first | replace hb1 := of_decide_eq_false hb1 | skip
        refine pwp_skip ?_; refine n_then ?_; refine pwx_sr 0 [] (by rfl) fun _ K15 => ?_; simp (disch := omega) only [go_sem]; refine K15 _ ?_; clear K15; refine pwp_seq ?_; refine pwx_sr 0 [] (by rfl) fun _ K16 => ?_; simp (disch := omega) only [go_sem]; refine K16 _ ?_; clear K16; refine pwp_cond (b := _) (by rfl) (fun hb3 => ?_) (fun hb3 => ?_)
        · first | replace hb3 := of_decide_eq_true hb3 | skip
          refine pwx_region 0 [] (by rfl) fun _ K17 => ?_; simp (disch := omega) only [go_sem]; refine K17 _ ?_; clear K17; refine n_then ?_; refine pwx_region 0 [] (by rfl) fun _ K18 => ?_; simp (disch := omega) only [go_sem]; refine K18 _ ?_; clear K18; refine n_block ?_; refine n_then ?_; refine pwx_region 0 [] (by rfl) fun _ K19 => ?_; simp (disch := omega) only [go_sem]; refine K19 _ ?_; clear K19; refine n_then ?_; have hz := dg_out (l := v) (i := i) (by omega); refine ⟨_, ?hdec, ⟨i + 1, W'.set (off + i) (dg W (off + i) + c - 1000000000), 1, ?hf0, ?hf1, rfl, ?heq⟩, ?hok⟩
          case heq => first | rfl | simp [St.cut, keep]
          case hf0 => omega
          case hf1 => exact hS.stp (by omega) (by omega) (by omega) (by omega)
          case hdec => omega
          case hok => rfl
        · first | replace hb3 := of_decide_eq_false hb3 | skip
          refine pwp_skip ?_; refine n_then ?_; refine pwx_region 0 [] (by rfl) fun _ K20 => ?_; simp (disch := omega) only [go_sem]; refine K20 _ ?_; clear K20; refine n_block ?_; refine n_then ?_; refine pwx_region 0 [] (by rfl) fun _ K21 => ?_; simp (disch := omega) only [go_sem]; refine K21 _ ?_; clear K21; refine n_then ?_; have hz := dg_out (l := v) (i := i) (by omega); refine ⟨_, ?hdec, ⟨i + 1, W'.set (off + i) (dg W (off + i) + c), 0, ?hf0, ?hf1, rfl, ?heq⟩, ?hok⟩
          case heq => first | rfl | simp [St.cut, keep]
          case hf0 => omega
          case hf1 => exact hS.stp (by omega) (by omega) (by omega) (by omega)
          case hdec => omega
          case hok => rfl
    · replace hb0 := of_decide_eq_false hb0
      obtain rfl : i = n := by omega
      refine pwp_exit ?_; refine e_then ?_; refine e_then ?_; refine e_here ?_; refine ⟨Or.inl rfl, _, rfl, rfl, _, u32s_im _, ?_, _, rfl⟩; exact ⟨W', hS.done hvn, rfl, rfl⟩
set_option maxHeartbeats 4000000 in
theorem o_integer_times (a : List Nat) (hda : Dig a) (hla : a.length ≤ 4000000) (b : List Nat) (hdb : Dig b) (hlb : b.length ≤ 4000000) (σ : List Box) :
    RetM Tryz.prog 124 [.c (lC a), .c (lC b)] σ fun r' σ' => r' = .e (.c (.msl σ.length 0 (a.length + b.length) (a.length + b.length) 1)) ∧ σ' = σ ++ [.live (u32s (fl (a.length + b.length) (val a * val b)))] := by
  refine own_of_body (md := {}) Tryz.func124 (by kernel_rfl) rfl rfl (u32s_im _) ?_ σ; simp only [Tryz.f124, List.map_cons, List.map_nil, List.length_cons, List.length_nil, Nat.zero_add, List.cons_append, List.nil_append, Nat.reduceAdd, Nat.reduceSub, List.reduceReplicate]; refine pwx_sr 0 [] (by rfl) fun _ K1 => ?_; simp (disch := omega) only [go_sem]; refine K1 _ ?_; clear K1; refine pwx_sr 1 [] (by rfl) fun _ K2 => ?_; simp (disch := omega) only [go_sem]; refine K2 _ ?_; clear K2; refine pwp_seq ?_; refine pwx_sr 0 [] (by rfl) fun _ K3 => ?_; simp (disch := omega) only [go_sem]; refine K3 _ ?_; clear K3; refine pwp_block ?_; refine pwp_loopF (false :: true :: false :: false :: false :: true :: false :: false :: false :: false :: false :: false :: false :: false :: false :: false :: false :: false :: true :: true :: true :: false :: false :: false :: false :: false :: false :: false :: false :: false :: false :: false :: false :: false :: false :: false :: false :: false :: false :: false :: false :: false :: false :: false :: false :: false :: false :: false :: false :: false :: false :: false :: false :: false :: false :: false :: false :: false :: false :: false :: false :: false :: false :: false :: false :: false :: false :: false :: []) 1 (fun M s => ∃ i : Nat, ∃ out : List Nat, (i ≤ a.length) ∧ (TimesO a b i out) ∧ a.length - i = M ∧ s = { slots := .j :: .e (.c (lC b)) :: .j :: .j :: .j :: .e (.c (.msl 0 0 (a.length + b.length) (a.length + b.length) 1)) :: .j :: .j :: .j :: .j :: .j :: .j :: .j :: .j :: .j :: .j :: .j :: .j :: .e (.c (lC a)) :: .e (.c (.int .i64 (a.length : Int))) :: .e (.c (.int .i64 (i : Int))) :: .j :: .j :: .j :: .j :: .j :: .j :: .j :: .j :: .j :: .j :: .j :: .j :: .j :: .j :: .j :: .j :: .j :: .j :: .j :: .j :: .j :: .j :: .j :: .j :: .j :: .j :: .j :: .j :: .j :: .j :: .j :: .j :: .j :: .j :: .j :: .j :: .j :: .j :: .j :: .j :: .j :: .j :: .j :: .j :: .j :: .j :: .j :: [], st := [.live (u32s out)] }) (n := a.length - 0) rfl ?_ ?_ ?_
  · refine ⟨0, List.replicate (a.length + b.length) 0, ?_, ?_, rfl, ?_⟩
    · omega
    · exact TimesO.zero a b
    · first | rfl | simp [St.cut, keep]
  · refine ⟨rfl, ?_, ?_⟩ <;> first | rfl | (simp [keep, PV.lt, PE.lt, PC.lt, Box.lt, ↓lC_lt]; done) | simp [keep, PV.lt, PE.lt, PC.lt, Box.lt, ↓lC_lt, ↓intC_lt, ↓ratC_lt, ↓u32s_lt]
  · rintro _ _ ⟨i, out, hi, hO, rfl, rfl⟩
    have hlo := hO.len; refine pwx_sr 0 [] (by rfl) fun _ K4 => ?_; simp (disch := omega) only [go_sem]; refine K4 _ ?_; clear K4; refine pwp_seq ?_; refine pwp_cond (b := _) (by rfl) (fun hb0 => ?_) (fun hb0 => ?_)
    · first | replace hb0 := of_decide_eq_true hb0 | skip
      refine pwp_skip ?_; refine n_then ?_; refine pwp_seq ?_; refine pwp_block ?_; refine pwx_sr 0 [] (by rfl) fun _ K5 => ?_; simp (disch := omega) only [go_sem]; refine K5 _ ?_; clear K5; refine pwx_sr 0 [] (by rfl) fun _ K6 => ?_; simp (disch := omega) only [go_sem]; refine K6 _ ?_; clear K6; refine pwp_seq ?_; refine pwx_sr 0 [] (by rfl) fun _ K7 => ?_; simp (disch := omega) only [go_sem]; refine K7 _ ?_; clear K7; refine pwp_block ?_; refine pwp_loopF (false :: true :: false :: false :: false :: true :: true :: true :: true :: false :: false :: false :: false :: false :: false :: false :: false :: false :: true :: true :: true :: false :: false :: false :: false :: true :: true :: true :: false :: false :: false :: false :: false :: false :: false :: false :: false :: false :: false :: false :: false :: false :: false :: false :: false :: false :: false :: false :: false :: false :: false :: false :: false :: false :: false :: false :: false :: false :: false :: false :: false :: false :: false :: false :: false :: false :: false :: false :: []) 1 (fun M s => ∃ k : Nat, ∃ out' : List Nat, ∃ c : Nat, (k ≤ b.length) ∧ (TimesI a b i k out' c) ∧ b.length - k = M ∧ s = { slots := .j :: .e (.c (lC b)) :: .j :: .j :: .j :: .e (.c (.msl 0 0 (a.length + b.length) (a.length + b.length) 1)) :: .e (.c (.int .i64 (i : Int))) :: .e (.c (.int .u32 (dg a i : Int))) :: .e (.c (.int .u64 (c : Int))) :: .j :: .j :: .j :: .j :: .j :: .j :: .j :: .j :: .j :: .e (.c (lC a)) :: .e (.c (.int .i64 (a.length : Int))) :: .e (.c (.int .i64 (i : Int))) :: .j :: .j :: .j :: .j :: .e (.c (lC b)) :: .e (.c (.int .i64 (b.length : Int))) :: .e (.c (.int .i64 (k : Int))) :: .j :: .j :: .j :: .j :: .j :: .j :: .j :: .j :: .j :: .j :: .j :: .j :: .j :: .j :: .j :: .j :: .j :: .j :: .j :: .j :: .j :: .j :: .j :: .j :: .j :: .j :: .j :: .j :: .j :: .j :: .j :: .j :: .j :: .j :: .j :: .j :: .j :: .j :: .j :: .j :: [], st := [.live (u32s out')] }) (n := b.length - 0) rfl ?_ ?_ ?_
      · refine ⟨0, out, 0, ?_, ?_, rfl, ?_⟩
        · omega
        · exact hO.inner hda hdb
        · first | rfl | simp [St.cut, keep]
      · refine ⟨rfl, ?_, ?_⟩ <;> first | rfl | (simp [keep, PV.lt, PE.lt, PC.lt, Box.lt, ↓lC_lt]; done) | simp [keep, PV.lt, PE.lt, PC.lt, Box.lt, ↓lC_lt, ↓intC_lt, ↓ratC_lt, ↓u32s_lt]
      · rintro _ _ ⟨k, out', c, hk, hI, rfl, rfl⟩
        have hlen := hI.len; have hc : c < 1000000000 := hI.car; have hx := dg_lt9 hda i; have hy := dg_lt9 hdb k; have hz := dg_lt9 hI.dig (i + k); have hbd : dg out' (i + k) + dg a i * dg b k + c < 1000000000000000000 := hI.bound hda hdb; have ht0 : (dg out' (i + k) + dg a i * dg b k + c) / 1000000000 < 1000000000 := Nat.div_lt_of_lt_mul (by omega); have ht1 := Nat.mod_lt (dg out' (i + k) + dg a i * dg b k + c) (show 0 < 1000000000 by omega); refine pwx_sr 0 [] (by rfl) fun _ K8 => ?_; simp (disch := omega) only [go_sem]; refine K8 _ ?_; clear K8; refine pwp_seq ?_; refine pwp_cond (b := _) (by rfl) (fun hb1 => ?_) (fun hb1 => ?_)
        · first | replace hb1 := of_decide_eq_true hb1 | skip
          refine pwp_skip ?_; refine n_then ?_; refine pwp_seq ?_; refine pwp_block ?_; refine pwx_sr 0 [] (by rfl) fun _ K9 => ?_; simp (disch := omega) only [go_sem]; refine K9 _ ?_; clear K9; refine pwx_sr 0 [] (by rfl) fun _ K10 => ?_; simp (disch := omega) only [go_sem]; refine K10 _ ?_; clear K10; refine pwx_region 0 [] (by rfl) fun _ K11 => ?_; simp (disch := omega) only [go_sem]; refine K11 _ ?_; clear K11; refine n_block ?_; refine n_then ?_; refine pwx_region 0 [] (by rfl) fun _ K12 => ?_; simp (disch := omega) only [go_sem]; refine K12 _ ?_; clear K12; refine n_then ?_; refine ⟨_, ?hdec, ⟨k + 1, out'.set (i + k) ((dg out' (i + k) + dg a i * dg b k + c) % 1000000000), (dg out' (i + k) + dg a i * dg b k + c) / 1000000000, ?hf0, ?hf1, rfl, ?heq⟩, ?hok⟩
          case heq => first | rfl | simp [St.cut, keep]
          case hf0 => omega
          case hf1 => exact hI.step hda hdb (by omega) (by omega) rfl
          case hdec => omega
          case hok => refine ⟨rfl, ?_, ?_⟩ <;> first | rfl | (simp [keep, PV.lt, PE.lt, PC.lt, Box.lt, ↓lC_lt]; done) | simp [keep, PV.lt, PE.lt, PC.lt, Box.lt, ↓lC_lt, ↓intC_lt, ↓ratC_lt, ↓u32s_lt]
        · first | replace hb1 := of_decide_eq_false hb1 | skip
          refine pwp_exit ?_; refine e_then ?_; refine e_then ?_; refine e_here ?_; refine n_then ?_; refine pwx_region 0 [] (by rfl) fun _ K13 => ?_; simp (disch := omega) only [go_sem]; refine K13 _ ?_; clear K13; refine n_block ?_; refine n_then ?_; refine pwx_region 0 [] (by rfl) fun _ K14 => ?_; simp (disch := omega) only [go_sem]; refine K14 _ ?_; clear K14; refine n_then ?_
          have hk2 : k = b.length := by omega
          refine ⟨_, ?hdec, ⟨i + 1, out'.set (i + b.length) c, ?hf0, ?hf1, rfl, ?heq⟩, ?hok⟩
          case heq => first | rfl | simp [St.cut, keep]
          case hf0 => omega
          case hf1 => exact TimesI.close (hk2 ▸ hI) (by omega)
          case hdec => omega
          case hok => refine ⟨rfl, ?_, ?_⟩ <;> first | rfl | (simp [keep, PV.lt, PE.lt, PC.lt, Box.lt, ↓lC_lt]; done) | simp [keep, PV.lt, PE.lt, PC.lt, Box.lt, ↓lC_lt, ↓intC_lt, ↓ratC_lt, ↓u32s_lt]
    · first | replace hb0 := of_decide_eq_false hb0 | skip
      refine pwp_exit ?_; refine e_then ?_; refine e_then ?_; refine e_here ?_; refine n_then ?_; refine pwx_sr 0 [] (by rfl) fun _ K15 => ?_; simp (disch := omega) only [go_sem]; refine K15 _ ?_; clear K15; refine pwp_ret ?_; refine ⟨Or.inr rfl, ?_⟩
      obtain rfl : i = a.length := by omega
      rw [← hO.done]; exact ⟨0, rfl, rfl⟩

end Go.Proofs.YtdojhoegildiaaaGreat

namespace Go.PL

theorem guess0 {W V P vh vl lv lo u2 top : Nat} (hW : W = (top * BS + u2) * P + lo) (hV : V = (vh * BS + vl) * P + lv) (hlo : lo < P) (hlv : lv < P) (hu2 : u2 < BS) (hvl : vl < BS) (hvh : BS ≤ 2 * vh) (hWV : W < V * BS) :
    W / V ≤ top / vh ∧ top / vh ≤ BS + 1 := by
  have hB : 0 < BS := by decide
  have hP : 0 < P := by omega
  have hvh0 : 0 < vh := by omega
  constructor
  · rw [Nat.le_div_iff_mul_le hvh0]
    have h1 : W / V * V ≤ W := Nat.div_mul_le_self W V
    generalize W / V = q at *
    have h2 : q * (vh * (BS * P)) ≤ q * V := Nat.mul_le_mul_left _ (by rw [hV, Nat.add_mul]; have : vh * BS * P = vh * (BS * P) := Nat.mul_assoc _ _ _; omega)
    have h3 : W < (top + 1) * (BS * P) := by
      have h4 : (u2 + 1) * P ≤ BS * P := Nat.mul_le_mul_right _ hu2
      rw [hW, Nat.add_mul, Nat.add_mul, Nat.one_mul, Nat.mul_assoc]
      rw [Nat.add_mul, Nat.one_mul] at h4
      omega
    have h5 : q * vh * (BS * P) < (top + 1) * (BS * P) := by rw [Nat.mul_assoc]; omega
    have := Nat.lt_of_mul_lt_mul_right h5
    omega
  · have h3 : top * (BS * P) ≤ W := by rw [hW, Nat.add_mul, Nat.mul_assoc]; omega
    have h4 : V < (vh + 1) * (BS * P) := by
      have h5 : (vl + 1) * P ≤ BS * P := Nat.mul_le_mul_right _ hvl
      rw [hV, Nat.add_mul, Nat.add_mul, Nat.one_mul, Nat.mul_assoc]
      rw [Nat.add_mul, Nat.one_mul] at h5
      omega
    have h6 : V * BS < (vh + 1) * (BS * P) * BS := Nat.mul_lt_mul_of_pos_right h4 hB
    have h7 : top * (BS * P) < (vh + 1) * BS * (BS * P) := by
      have : (vh + 1) * (BS * P) * BS = (vh + 1) * BS * (BS * P) := by ac_rfl
      omega
    have h8 : top < (vh + 1) * BS := Nat.lt_of_mul_lt_mul_right h7
    have h9 : top < vh * (BS + 2) := by
      rw [Nat.add_mul, Nat.one_mul] at h8
      rw [Nat.mul_add]; omega
    have := Nat.div_lt_of_lt_mul h9
    omega

theorem guess_dec {W V P vh vl lv lo u2 top guess rest : Nat} (hW : W = (top * BS + u2) * P + lo) (hV : V = (vh * BS + vl) * P + lv) (hlo : lo < P) (hV0 : 0 < V) (hWV : W < V * BS)
    (hg : guess * vh + rest = top) (hq : W / V ≤ guess) (hc : BS ≤ guess ∨ rest * BS + u2 < guess * vl) : 0 < guess ∧ W / V ≤ guess - 1 := by
  have hqB : W / V < BS := Nat.div_lt_of_lt_mul hWV
  have hP : 0 < P := by omega
  have hB : 0 < BS := by decide
  have hne : W / V < guess := by
    rcases hc with hc | hc
    · omega
    · rcases Nat.lt_or_ge (W / V) guess with h | h
      · exact h
      · exfalso
        have h1 : W / V * V ≤ W := Nat.div_mul_le_self W V
        have h2 : guess * V ≤ W := Nat.le_trans (Nat.mul_le_mul_right _ h) h1
        have h3 : guess * ((vh * BS + vl) * P) ≤ guess * V := Nat.mul_le_mul_left _ (by omega)
        have h4 : W < (top * BS + u2 + 1) * P := by rw [Nat.add_mul _ 1, Nat.one_mul]; omega
        have h5 : guess * (vh * BS + vl) * P < (top * BS + u2 + 1) * P := by rw [Nat.mul_assoc]; omega
        have h6 := Nat.lt_of_mul_lt_mul_right h5
        rw [Nat.mul_add, ← Nat.mul_assoc, ← hg, Nat.add_mul] at h6
        omega
  generalize W / V = q at *
  omega

theorem guess_fin {W V P vh vl lv lo u2 top guess rest : Nat} (hW : W = (top * BS + u2) * P + lo) (hV : V = (vh * BS + vl) * P + lv) (hlv : lv < P) (hvh : 0 < vh)
    (hg : guess * vh + rest = top) (hgB : guess ≤ BS) (hc : guess * vl ≤ rest * BS + u2) : guess ≤ W / V + 1 := by
  cases guess with
  | zero => exact Nat.zero_le _
  | succ g =>
    have hP : 0 < P := by omega
    have hB : 0 < BS := by decide
    have hV0 : 0 < V := by
      have : 0 < vh * BS * P := Nat.mul_pos (Nat.mul_pos hvh hB) hP
      rw [hV, Nat.add_mul]; omega
    have h1 : (g + 1) * (vh * BS + vl) * P ≤ W := by
      rw [hW]
      refine Nat.le_trans (Nat.mul_le_mul_right P (m := top * BS + u2) ?_) (by omega)
      have e : (g + 1) * (vh * BS + vl) = (g + 1) * vh * BS + (g + 1) * vl := by rw [Nat.mul_add, Nat.mul_assoc]
      have e2 : ((g + 1) * vh + rest) * BS = (g + 1) * vh * BS + rest * BS := Nat.add_mul _ _ _
      rw [e, ← hg, e2]
      omega
    have h2 : (g + 1) * lv ≤ BS * P := Nat.mul_le_mul hgB (by omega)
    have h3 : BS * P ≤ V := by
      have : 1 * BS * P ≤ vh * BS * P := Nat.mul_le_mul_right _ (Nat.mul_le_mul_right _ hvh)
      rw [Nat.one_mul] at this
      rw [hV, Nat.add_mul]; omega
    have h4 : (g + 1) * V = (g + 1) * (vh * BS + vl) * P + (g + 1) * lv := by
      rw [hV, Nat.mul_add, Nat.mul_assoc]
    have h5 : g * V + V = (g + 1) * V := by rw [Nat.add_mul, Nat.one_mul]
    have h6 : g * V ≤ W := by omega
    have := (Nat.le_div_iff_mul_le hV0).2 h6
    omega

theorem scale_fact {d s : Nat} (hd : 0 < d) (hdB : d < 1000000000) (hs : s = 1000000000 / (d + 1)) : 0 < s ∧ s * (d + 1) ≤ 1000000000 ∧ 500000000 ≤ s * d ∧ s ≤ 500000000 := by
  have h1 : s * (d + 1) ≤ 1000000000 := by rw [hs]; exact Nat.div_mul_le_self _ _
  have h2 : 1000000000 < (s + 1) * (d + 1) := by
    have := Nat.lt_div_mul_add (a := 1000000000) (b := d + 1) (by omega)
    rw [← hs] at this
    rw [Nat.add_mul, Nat.one_mul]; omega
  have h3 : 0 < s := by
    rw [hs]; exact Nat.div_pos (by omega) (by omega)
  have h4 : s ≤ 500000000 := by
    rw [hs]; exact Nat.div_le_of_le_mul (by omega)
  refine ⟨h3, h1, ?_, h4⟩
  rcases Nat.lt_or_ge (s * d) 500000000 with h | h
  · exfalso
    obtain ⟨s', rfl⟩ : ∃ k, s = k + 1 := ⟨s - 1, by omega⟩
    obtain ⟨d', rfl⟩ : ∃ k, d = k + 1 := ⟨d - 1, by omega⟩
    have e1 : (s' + 1) * (d' + 1) = s' * d' + s' + d' + 1 := by grind
    have e2 : (s' + 1 + 1) * (d' + 1 + 1) = s' * d' + 2 * s' + 2 * d' + 4 := by grind
    omega
  · exact h

theorem limbs_len_eq {n k : Nat} (h1 : BS ^ k ≤ n) (h2 : n < BS ^ (k + 1)) : (limbs n).length = k + 1 := by
  have h3 := limbs_len h2
  have h4 := limbs_lt n
  rcases Nat.lt_or_ge (limbs n).length (k + 1) with h | h
  · exfalso
    have : BS ^ (limbs n).length ≤ BS ^ k := Nat.pow_le_pow_right (by decide) (by omega)
    omega
  · omega
theorem limbs_top {n k : Nat} (h : (limbs n).length = k + 1) : n = vt (limbs n) k + BS ^ k * dg (limbs n) k ∧ vt (limbs n) k < BS ^ k := by
  refine ⟨?_, vt_lt (limbs_dig n) k⟩
  have h1 := vt_all (l := limbs n) (i := k + 1) (by omega)
  rw [limbs_val, vt_succ] at h1
  omega
theorem limbs_top0 {n k : Nat} (h : (limbs n).length = k + 1) : 0 < dg (limbs n) k := by
  have h1 := limbs_last (n := n)
  rcases Nat.eq_zero_or_pos (dg (limbs n) k) with h0 | h0
  · exfalso
    apply h1
    rw [List.getLast?_eq_getElem?, h]
    have : k < (limbs n).length := by omega
    simp only [dg, List.getD_eq_getElem?_getD, List.getElem?_eq_getElem this, Option.getD_some] at h0
    simp only [Nat.add_sub_cancel]
    rw [List.getElem?_eq_getElem this, h0]
  · exact h0
theorem scaled_v {B n s : Nat} (hn : (limbs B).length = n + 1) (hs : s = 1000000000 / (dg (limbs B) n + 1)) : (limbs (B * s)).length = n + 1 ∧ 500000000 ≤ dg (limbs (B * s)) n ∧ 0 < s ∧ s ≤ 500000000 := by
  obtain ⟨h1, h2⟩ := limbs_top hn
  have h3 := limbs_top0 hn
  obtain ⟨s0, s1, s2, s3⟩ := scale_fact h3 (dg_lt9 (limbs_dig B) n) hs
  generalize dg (limbs B) n = d at *
  have h4 : B * s < BS ^ (n + 1) := by
    have : B < BS ^ n * (d + 1) := by rw [Nat.mul_add, Nat.mul_one]; omega
    have h5 : B * s < BS ^ n * (d + 1) * s := Nat.mul_lt_mul_of_pos_right this s0
    have h6 : BS ^ n * (s * (d + 1)) ≤ BS ^ n * BS := Nat.mul_le_mul_left _ s1
    rw [Nat.pow_succ]
    have e : BS ^ n * (d + 1) * s = BS ^ n * (s * (d + 1)) := by rw [Nat.mul_assoc, Nat.mul_comm (d + 1)]
    omega
  have h5 : BS ^ n * 500000000 ≤ B * s := by
    have h6 : BS ^ n * (s * d) ≤ B * s := by
      have : BS ^ n * d * s ≤ B * s := Nat.mul_le_mul_right _ (by omega)
      rwa [Nat.mul_assoc, Nat.mul_comm d] at this
    exact Nat.le_trans (Nat.mul_le_mul_left _ s2) h6
  have h7 : BS ^ n ≤ B * s := Nat.le_trans (Nat.le_mul_of_pos_right _ (by decide)) h5
  have h8 := limbs_len_eq h7 h4
  refine ⟨h8, ?_, s0, s3⟩
  obtain ⟨g1, g2⟩ := limbs_top h8
  generalize dg (limbs (B * s)) n = e at *
  rcases Nat.lt_or_ge e 500000000 with h | h
  · exfalso
    have : BS ^ n * (e + 1) ≤ BS ^ n * 500000000 := Nat.mul_le_mul_left _ h
    rw [Nat.mul_add, Nat.mul_one] at this
    omega
  · exact h

theorem win_add (l : List Nat) (off i j : Nat) : win l off (i + j) = win l off i + BS ^ i * win l (off + i) j := by
  induction j with
  | zero => simp [win_zero]
  | succ j ih =>
    rw [← Nat.add_assoc, win_succ, win_succ, ih, Nat.pow_add, Nat.mul_add]
    have : off + (i + j) = off + i + j := by omega
    rw [this, Nat.mul_assoc]; omega
theorem win_vt (l : List Nat) (i : Nat) : win l 0 i = vt l i := by simp [win]

structure DivI (X V n m L kk : Nat) (W q : List Nat) : Prop where
  len : W.length = L
  qlen : q.length = m - n
  dig : ∀ j, j < m → dg W j < BS
  qdig : Dig q
  qz : ∀ j, j < kk → dg q j = 0
  eq : vt W m + V * val q = X
  lt : vt W m < V * BS ^ kk
structure WinI (V n k : Nat) (W : List Nat) (w : Nat) : Prop where
  wdef : w = win W k (n + 1)
  lt : w < V * BS
theorem DivI.wind {X V n m L k : Nat} {W q : List Nat} (h : DivI X V n m L (k + 1) W q) (hV : V < BS ^ n) (hk : k + n + 1 ≤ m) :
    vt W m = vt W k + BS ^ k * win W k (n + 1) ∧ win W k (n + 1) < V * BS := by
  have h1 : vt W m = vt W k + BS ^ k * win W k (n + 1) + BS ^ (k + n + 1) * win W (k + n + 1) (m - (k + n + 1)) := by
    have e : m = k + (n + 1) + (m - (k + n + 1)) := by omega
    rw [← win_vt, ← win_vt]
    conv => lhs; rw [e]
    rw [win_add, win_add, Nat.zero_add]
    simp only [Nat.zero_add, Nat.add_assoc]
  have h2 : vt W m < BS ^ (k + n + 1) := by
    have h3 : V * BS ^ (k + 1) ≤ BS ^ n * BS ^ (k + 1) := Nat.mul_le_mul_right _ (Nat.le_of_lt hV)
    rw [← Nat.pow_add] at h3
    have : n + (k + 1) = k + n + 1 := by omega
    rw [this] at h3
    have := h.lt
    omega
  have h0 : win W (k + n + 1) (m - (k + n + 1)) = 0 := by
    rcases Nat.eq_zero_or_pos (win W (k + n + 1) (m - (k + n + 1))) with h0 | h0
    · exact h0
    · exfalso
      have : BS ^ (k + n + 1) * 1 ≤ BS ^ (k + n + 1) * win W (k + n + 1) (m - (k + n + 1)) := Nat.mul_le_mul_left _ h0
      omega
  rw [h0, Nat.mul_zero, Nat.add_zero] at h1
  refine ⟨h1, ?_⟩
  have h4 : BS ^ k * win W k (n + 1) < BS ^ k * (V * BS) := by
    have := h.lt
    rw [Nat.pow_succ] at this
    have e : V * (BS ^ k * BS) = BS ^ k * (V * BS) := by rw [Nat.mul_left_comm]
    omega
  exact Nat.lt_of_mul_lt_mul_left h4
theorem DivI.step {X V n m L k : Nat} {W q W' : List Nat} (h : DivI X V n m L (k + 1) W q) (hV : V < BS ^ n) (hk : k + n + 1 ≤ m) (hlen : W'.length = W.length)
    (hout : ∀ j, j < k ∨ k + (n + 1) ≤ j → dg W' j = dg W j) (hdig : ∀ j, k ≤ j → j < k + (n + 1) → dg W' j < BS) {g : Nat} (hw : win W' k (n + 1) + g * V = win W k (n + 1)) (hr : win W' k (n + 1) < V) (hV0 : 0 < V) : DivI X V n m L k W' (q.set k g) := by
  obtain ⟨h1, h2⟩ := h.wind hV hk
  have hg : g < BS := by
    rcases Nat.lt_or_ge g BS with h | h
    · exact h
    · exfalso
      have : BS * V ≤ g * V := Nat.mul_le_mul_right _ h
      rw [Nat.mul_comm] at this
      omega
  have hkq : k < q.length := by rw [h.qlen]; omega
  have h3 : vt W' m = vt W' k + BS ^ k * win W' k (n + 1) := by
    have e : m = k + (n + 1) + (m - (k + n + 1)) := by omega
    have f1 : vt W' m = vt W' k + BS ^ k * win W' k (n + 1) + BS ^ (k + n + 1) * win W' (k + n + 1) (m - (k + n + 1)) := by
      rw [← win_vt, ← win_vt]
      conv => lhs; rw [e]
      rw [win_add, win_add, Nat.zero_add]
      simp only [Nat.zero_add, Nat.add_assoc]
    have f2 : vt W m = vt W k + BS ^ k * win W k (n + 1) + BS ^ (k + n + 1) * win W (k + n + 1) (m - (k + n + 1)) := by
      rw [← win_vt, ← win_vt]
      conv => lhs; rw [e]
      rw [win_add, win_add, Nat.zero_add]
      simp only [Nat.zero_add, Nat.add_assoc]
    have f3 : win W' (k + n + 1) (m - (k + n + 1)) = win W (k + n + 1) (m - (k + n + 1)) := win_congr fun j a b => hout j (.inr (by omega))
    rw [f3] at f1
    omega
  have h4 : vt W' k = vt W k := by rw [← win_vt, ← win_vt]; exact win_congr fun j a b => hout j (.inl (by omega))
  have h5 : vt W k < BS ^ k := by
    rw [← win_vt]; exact win_lt fun j a b => h.dig j (by omega)
  refine ⟨by rw [hlen]; exact h.len, by rw [List.length_set]; exact h.qlen, fun j hj => ?_, h.qdig.set hg, fun j hj => ?_, ?_, ?_⟩
  · by_cases hjk : j < k ∨ k + (n + 1) ≤ j
    · rw [hout j hjk]; exact h.dig j hj
    · exact hdig j (by omega) (by omega)
  · rw [dg_set_ne (by omega)]; exact h.qz j (by omega)
  · have h6 := val_set (l := q) (j := k) (x := g) hkq
    rw [h.qz k (by omega), Nat.mul_zero, Nat.add_zero] at h6
    rw [h3, h4, h6, Nat.mul_add]
    have h7 := h.eq
    rw [h1] at h7
    have e : V * (BS ^ k * g) = BS ^ k * (g * V) := by rw [Nat.mul_left_comm, Nat.mul_comm V]
    have h8 : BS ^ k * win W' k (n + 1) + BS ^ k * (g * V) = BS ^ k * win W k (n + 1) := by rw [← Nat.mul_add, hw]
    rw [e]
    omega
  · rw [h3, h4]
    have : BS ^ k * (win W' k (n + 1) + 1) ≤ BS ^ k * V := Nat.mul_le_mul_left _ hr
    rw [Nat.mul_add, Nat.mul_one] at this
    rw [Nat.mul_comm V]
    omega
theorem sub_exact {W W1 v : List Nat} {V k n g : Nat} (h : SubR W v g k (n + 1) W1 false) (hv : val v = V) (hV0 : 0 < V) (hq : win W k (n + 1) / V ≤ g) :
    win W1 k (n + 1) + g * V = win W k (n + 1) ∧ win W1 k (n + 1) < V := by
  obtain ⟨t, he, hn⟩ := h.eq
  have ht : t = 0 := by simpa using hn
  subst ht
  rw [hv, Nat.mul_zero, Nat.add_zero] at he
  refine ⟨he.symm, ?_⟩
  have h1 := Nat.lt_div_mul_add (a := win W k (n + 1)) hV0
  have h2 : win W k (n + 1) / V * V ≤ g * V := Nat.mul_le_mul_right _ hq
  omega
theorem sub_less {W W1 W2 v : List Nat} {V k n g : Nat} (h : SubR W v g k (n + 1) W1 true) (h' : ResR W1 v k (n + 1) W2) (hv : val v = V) (hV0 : 0 < V) (hV : V < BS ^ n) (hg : g ≤ win W k (n + 1) / V + 1) :
    0 < g ∧ win W2 k (n + 1) + (g - 1) * V = win W k (n + 1) ∧ win W2 k (n + 1) < V := by
  obtain ⟨t, he, hn⟩ := h.eq
  obtain ⟨t2, he2⟩ := h'.eq
  have ht : 0 < t := by simpa using hn
  have hw1 : win W1 k (n + 1) < BS ^ (n + 1) := win_lt h.dig
  have hw2 : win W2 k (n + 1) < BS ^ (n + 1) := win_lt h'.dig
  have hVB : V < BS ^ (n + 1) := by
    have : BS ^ n * 1 ≤ BS ^ n * BS := Nat.mul_le_mul_left _ (by decide)
    rw [Nat.pow_succ]; omega
  rw [hv] at he he2
  generalize win W k (n + 1) = w at *
  generalize win W1 k (n + 1) = w1 at *
  generalize win W2 k (n + 1) = w2 at *
  generalize BS ^ (n + 1) = P at *
  have h1 : P * 1 ≤ P * t := Nat.mul_le_mul_left _ ht
  have hgw : w < g * V := by omega
  have hg0 : 0 < g := by
    rcases Nat.eq_zero_or_pos g with q | q
    · subst q; omega
    · exact q
  obtain ⟨c, rfl⟩ : ∃ c, g = c + 1 := ⟨g - 1, by omega⟩
  have hcV : c * V ≤ w := by
    have : c ≤ w / V := by omega
    exact Nat.le_trans (Nat.mul_le_mul_right _ this) (Nat.div_mul_le_self w V)
  have e : (c + 1) * V = c * V + V := by rw [Nat.add_mul, Nat.one_mul]
  rw [e] at he hgw
  have t1 : t = 1 := by
    rcases Nat.lt_or_ge t 2 with q | q
    · omega
    · have : P * 2 ≤ P * t := Nat.mul_le_mul_left _ q
      omega
  subst t1
  have t21 : t2 = 1 := by
    rcases Nat.lt_or_ge t2 1 with q | q
    · have : t2 = 0 := by omega
      subst this; omega
    · rcases Nat.lt_or_ge t2 2 with q2 | q2
      · omega
      · have : P * 2 ≤ P * t2 := Nat.mul_le_mul_left _ q2
        omega
  subst t21
  refine ⟨hg0, ?_, ?_⟩ <;> (try simp only [Nat.add_sub_cancel]) <;> omega
theorem DivI.done {A B s n m L : Nat} {W q : List Nat} (h : DivI (A * s) (B * s) n m L 0 W q) (hs : 0 < s) (hB : 0 < B) (hV : B * s < BS ^ n) (hn : n ≤ m) : val q = A / B ∧ vt W n / s = A % B ∧ vt W n = A % B * s := by
  have h1 := h.eq
  have h2 := h.lt
  rw [Nat.pow_zero, Nat.mul_one] at h2
  have h3 : vt W n = vt W m := by
    have e : vt W m = vt W n + BS ^ n * win W n (m - n) := by
      rw [← win_vt, ← win_vt]
      conv => lhs; rw [show m = n + (m - n) by omega]
      rw [win_add, Nat.zero_add]
    rcases Nat.eq_zero_or_pos (win W n (m - n)) with q | q
    · rw [q, Nat.mul_zero] at e; omega
    · exfalso
      have : BS ^ n * 1 ≤ BS ^ n * win W n (m - n) := Nat.mul_le_mul_left _ q
      omega
  rw [h3]
  generalize vt W m = T at *
  generalize val q = Q at *
  have h4 : B * Q * s ≤ A * s := by
    have : B * s * Q = B * Q * s := by rw [Nat.mul_assoc, Nat.mul_comm s, Nat.mul_assoc]
    omega
  have h5 : B * Q ≤ A := Nat.le_of_mul_le_mul_right h4 hs
  obtain ⟨R, rfl⟩ : ∃ R, A = B * Q + R := ⟨A - B * Q, by omega⟩
  have h6 : T = R * s := by
    rw [Nat.add_mul] at h1
    have : B * s * Q = B * Q * s := by rw [Nat.mul_assoc, Nat.mul_comm s, Nat.mul_assoc]
    omega
  subst h6
  have h7 : R < B := Nat.lt_of_mul_lt_mul_right h2
  have e1 : (B * Q + R) / B = Q := by rw [Nat.mul_add_div hB, Nat.div_eq_of_lt h7, Nat.add_zero]
  have e2 : (B * Q + R) % B = R := by rw [Nat.mul_add_mod, Nat.mod_eq_of_lt h7]
  rw [e1, e2, Nat.mul_div_cancel _ hs]
  exact ⟨rfl, rfl, rfl⟩
theorem win_parts {W : List Nat} {k n : Nat} (hd : ∀ j, k ≤ j → j < k + (n + 2 + 1) → dg W j < BS) : ∃ lo, lo < BS ^ n ∧
    win W k (n + 2 + 1) = ((dg W (k + n + 2) * BS + dg W (k + n + 1)) * BS + dg W (k + n)) * BS ^ n + lo := by
  refine ⟨win W k n, win_lt fun j a b => hd j a (by omega), ?_⟩
  rw [win_succ, win_succ, win_succ]
  simp only [← Nat.add_assoc, Nat.pow_succ]
  grind
theorem lim_parts {V n : Nat} (h : (limbs V).length = n + 2) : ∃ lv, lv < BS ^ n ∧ V = (dg (limbs V) (n + 1) * BS + dg (limbs V) n) * BS ^ n + lv := by
  refine ⟨vt (limbs V) n, vt_lt (limbs_dig V) n, ?_⟩
  have h1 := vt_all (l := limbs V) (i := n + 2) (by omega)
  rw [limbs_val, vt_succ, vt_succ, Nat.pow_succ] at h1
  grind
end Go.PL

namespace Go.PL
def scl (B : Nat) : Nat := 1000000000 / (dg (limbs B) ((limbs B).length - 1) + 1)
def divQ (A B : Nat) : List Nat := if (limbs B).length = 1 then fl (limbs A).length (A / B) else if A < B then [] else fl ((limbs A).length + 2 - (limbs B).length) (A / B)
def divR (A B : Nat) : List Nat := if (limbs B).length = 1 then [A % B] else if A < B then limbs A else fl (limbs (A % B * scl B)).length (A % B)
theorem divQ1 {A B : Nat} (h : (limbs B).length = 1) : divQ A B = fl (limbs A).length (A / B) ∧ divR A B = [A % B] := by simp [divQ, divR, h]
theorem divQ2 {A B : Nat} (h : ¬ (limbs B).length = 1) (h2 : A < B) : divQ A B = [] ∧ divR A B = limbs A := by simp [divQ, divR, h, h2]
theorem divQ3 {A B : Nat} (h : ¬ (limbs B).length = 1) (h2 : ¬ A < B) : divQ A B = fl ((limbs A).length + 2 - (limbs B).length) (A / B) ∧ divR A B = fl (limbs (A % B * scl B)).length (A % B) := by simp [divQ, divR, h, h2]
theorem divQ_dig (A B : Nat) : Dig (divQ A B) := by unfold divQ; split <;> (try split) <;> first | exact fl_dig _ _ | exact Dig.nil
theorem divR_dig {A B : Nat} (hB : 0 < B) : Dig (divR A B) := by
  unfold divR
  split
  · rename_i h
    have h1 := limbs_lt B
    rw [h, Nat.pow_one] at h1
    exact Dig.cons (Nat.lt_trans (Nat.mod_lt _ hB) h1) Dig.nil
  · split
    · exact limbs_dig _
    · exact fl_dig _ _
theorem divQ_len (A B : Nat) : (divQ A B).length ≤ (limbs A).length + 2 := by
  unfold divQ; split <;> (try split) <;> simp
theorem limbs_lt0 {B : Nat} (hB : 0 < B) : 0 < (limbs B).length := by
  rcases Nat.eq_zero_or_pos (limbs B).length with h | h
  · have := limbs_eq_nil.1 (List.eq_nil_of_length_eq_zero h); omega
  · exact h
theorem scl_lt {B : Nat} (hB : 0 < B) : B * scl B < BS ^ (limbs B).length ∧ 0 < scl B := by
  have h0 := limbs_lt0 hB
  obtain ⟨n, hn⟩ : ∃ n, (limbs B).length = n + 1 := ⟨_, (Nat.sub_add_cancel h0).symm⟩
  have := scaled_v hn (s := scl B) (by unfold scl; rw [hn]; rfl)
  refine ⟨?_, this.2.2.1⟩
  have h1 := limbs_lt (B * scl B)
  rw [this.1] at h1
  rw [hn]; exact h1
theorem divR_len {A B : Nat} (hB : 0 < B) : (divR A B).length ≤ (limbs B).length + (limbs A).length := by
  have h0 := limbs_lt0 hB
  unfold divR
  split
  · simp; omega
  · split
    · omega
    · rw [fl_length]
      have h1 := scl_lt hB
      have h2 : A % B * scl B < BS ^ (limbs B).length := by
        have : A % B * scl B ≤ B * scl B := Nat.mul_le_mul_right _ (Nat.le_of_lt (Nat.mod_lt _ hB))
        omega
      have := limbs_len h2
      omega
theorem val_single (x : Nat) : val [x] = x := by simp [val]
theorem divQ_val {A B : Nat} (hB : 0 < B) : val (divQ A B) = A / B := by
  have hlt := limbs_lt A
  unfold divQ
  split
  · rw [val_fl, Nat.mod_eq_of_lt (Nat.lt_of_le_of_lt (Nat.div_le_self _ _) hlt)]
  · split
    · rename_i h; rw [Nat.div_eq_of_lt h]; rfl
    · rename_i h1 h2
      rw [val_fl, Nat.mod_eq_of_lt]
      have h0 := limbs_lt0 hB
      have hle : (limbs B).length ≤ (limbs A).length := by
        rcases Nat.lt_or_ge (limbs A).length (limbs B).length with q | q
        · exact absurd (limbs_lt_len q) (by omega)
        · exact q
      have hBl : BS ^ ((limbs B).length - 1) ≤ B := by
        obtain ⟨n, hn⟩ : ∃ n, (limbs B).length = n + 1 := ⟨_, (Nat.sub_add_cancel h0).symm⟩
        obtain ⟨t1, t2⟩ := limbs_top hn
        have t3 := limbs_top0 hn
        rw [hn]
        have : BS ^ n * 1 ≤ BS ^ n * dg (limbs B) n := Nat.mul_le_mul_left _ t3
        simp only [Nat.add_sub_cancel]
        omega
      refine Nat.div_lt_of_lt_mul (Nat.lt_of_lt_of_le hlt ?_)
      refine Nat.le_trans ?_ (Nat.mul_le_mul_right _ hBl)
      rw [← Nat.pow_add]
      exact Nat.pow_le_pow_right (by decide) (by omega)
theorem divR_val {A B : Nat} (hB : 0 < B) : val (divR A B) = A % B := by
  unfold divR
  split
  · exact val_single _
  · split
    · rename_i h; rw [limbs_val, Nat.mod_eq_of_lt h]
    · rw [val_fl, Nat.mod_eq_of_lt]
      have h1 := limbs_lt (A % B * scl B)
      have h2 := (scl_lt hB).2
      have : A % B * 1 ≤ A % B * scl B := Nat.mul_le_mul_left _ h2
      omega
theorem limbs_len_mono {A B : Nat} (h : B ≤ A) : (limbs B).length ≤ (limbs A).length := by
  rcases Nat.lt_or_ge (limbs A).length (limbs B).length with q | q
  · exact absurd (limbs_lt_len q) (by omega)
  · exact q
theorem times_v1 (B s : Nat) (hs : s < 1000000000) : val (fl ((limbs B).length + 1) (B * s)) = B * s := by
  rw [val_fl, Nat.mod_eq_of_lt]
  have h1 := limbs_lt B
  have h2 : s < BS := hs
  rw [Nat.pow_succ]
  exact Nat.mul_lt_mul'' h1 h2
theorem fl_take (k n : Nat) : (fl k n).take k = fl k n := List.take_of_length_le (by simp)
theorem u32s_cons0 (l : List Nat) : PC.int .u32 0 :: u32s l = u32s (0 :: l) := rfl
theorem cutm {id off n cap l h : Nat} (h1 : l ≤ h) (h2 : h ≤ cap) (h3 : l < cap) (k k' : IntKind) :
    cutA 1 (some (some (.c (.int k (l : Int))))) (some (some (.c (.int k' (h : Int))))) none (some (.c (.msl id off n cap 1))) = some (.msl id (off + l) (h - l) (cap - l) 1) := by
  have c1 : (0 : Int) ≤ (h : Int) ∧ (h : Int) ≤ (cap : Int) := ⟨by omega, by omega⟩
  have c2 : (0 : Int) ≤ (l : Int) ∧ (l : Int) ≤ (h : Int) := ⟨by omega, by omega⟩
  simp only [cutA, cutB, if_pos c1, if_pos c2, Option.bind_some, Int.toNat_natCast, Option.getD_none, if_neg (show ¬ cap = l by omega), Nat.mul_one]
theorem cutm0 {id off n cap h : Nat} (h2 : h ≤ cap) (h3 : 0 < cap) (k' : IntKind) :
    cutA 1 none (some (some (.c (.int k' (h : Int))))) none (some (.c (.msl id off n cap 1))) = some (.msl id off h cap 1) := by
  have c1 : (0 : Int) ≤ (h : Int) ∧ (h : Int) ≤ (cap : Int) := ⟨by omega, by omega⟩
  simp only [cutA, cutB, if_pos c1, Option.bind_some, Int.toNat_natCast, Option.getD_none, if_neg (show ¬ cap = 0 by omega), Nat.mul_one, Nat.sub_zero, Nat.add_zero, Nat.zero_mul]
theorem nc_sub2 {a : Nat} (h : 2 ≤ a) : (a : Int) - 2 = ((a - 2 : Nat) : Int) := by omega
theorem DivI.stepA {X V n m L k g : Nat} {W q v W1 : List Nat} (h : DivI X V n m L (k + 1) W q) (hv : val v = V) (hV : V < BS ^ n) (hV0 : 0 < V) (hk : k + n + 1 ≤ m) (hs : SubR W v g k (n + 1) W1 false) (hq : win W k (n + 1) / V ≤ g) :
    DivI X V n m L k W1 (q.set k g) := by
  obtain ⟨h1, h2⟩ := sub_exact hs hv hV0 hq
  exact h.step hV hk hs.len hs.out hs.dig h1 h2 hV0
theorem DivI.stepB {X V n m L k g : Nat} {W q v W1 W2 : List Nat} (h : DivI X V n m L (k + 1) W q) (hv : val v = V) (hV : V < BS ^ n) (hV0 : 0 < V) (hk : k + n + 1 ≤ m) (hs : SubR W v g k (n + 1) W1 true) (hr : ResR W1 v k (n + 1) W2) (hq : g ≤ win W k (n + 1) / V + 1) :
    DivI X V n m L k W2 (q.set k (g - 1)) := by
  obtain ⟨h0, h1, h2⟩ := sub_less hs hr hv hV0 hV hq
  refine h.step hV hk (hr.len.trans hs.len) (fun j hj => ?_) hr.dig h1 h2 hV0
  rw [hr.out j hj, hs.out j hj]
theorem DivI.start {A B s m cp : Nat} {lb la : Nat} (hm : m = la + 1 + 1) (hla : A < BS ^ la) (hs : s < 1000000000) (hcp : m ≤ cp) (hlb : BS ^ lb ≤ B * s) (hle : lb + 1 ≤ m) :
    DivI (A * s) (B * s) (lb + 1) m cp (m - (lb + 1)) (fl (la + 1) (A * s) ++ 0 :: List.replicate (cp - m) 0) (List.replicate (m - (lb + 1)) 0) := by
  have hX : A * s < BS ^ (la + 1) := by
    have h2 : s < BS := hs
    rw [Nat.pow_succ]
    exact Nat.mul_lt_mul'' hla h2
  have hv : vt (fl (la + 1) (A * s) ++ 0 :: List.replicate (cp - m) 0) m = A * s := by
    have e : (fl (la + 1) (A * s) ++ 0 :: List.replicate (cp - m) 0).take m = fl (la + 1) (A * s) ++ [0] := by
      rw [List.take_append, fl_length, List.take_of_length_le (by simp; omega)]
      have : m - (la + 1) = 1 := by omega
      rw [this]; rfl
    rw [vt, e, val_snoc, Nat.mul_zero, Nat.add_zero, val_fl, Nat.mod_eq_of_lt hX]
  have hd : Dig (fl (la + 1) (A * s) ++ 0 :: List.replicate (cp - m) 0) := (fl_dig _ _).append (Dig.cons (by decide) (dig_rep _))
  refine ⟨by simp; omega, by simp, fun j _ => dg_lt hd j, dig_rep _, fun j hj => ?_, by rw [hv, val_rep]; omega, ?_⟩
  · simp only [dg, List.getD_eq_getElem?_getD]
    cases h : (List.replicate (m - (lb + 1)) 0)[j]? with
    | none => rfl
    | some x => have := List.mem_of_getElem? h; simp at this; simp [this.2]
  · rw [hv]
    refine Nat.lt_of_lt_of_le hX ?_
    refine Nat.le_trans ?_ (Nat.mul_le_mul_right _ hlb)
    rw [← Nat.pow_add]
    exact Nat.pow_le_pow_right (by decide) (by omega)
theorem limbs_ge {n k : Nat} (h : (limbs n).length = k + 1) : BS ^ k ≤ n := by
  obtain ⟨t1, t2⟩ := limbs_top h
  have t3 := limbs_top0 h
  have : BS ^ k * 1 ≤ BS ^ k * dg (limbs n) k := Nat.mul_le_mul_left _ t3
  omega
theorem SubR.gpos {W v W1 : List Nat} {g k n : Nat} (h : SubR W v g k n W1 true) : 0 < g := by
  obtain ⟨t, he, hn⟩ := h.eq
  have ht : 0 < t := by simpa using hn
  have hw1 : win W1 k n < BS ^ n := win_lt h.dig
  rcases Nat.eq_zero_or_pos g with q | q
  · subst q
    have : BS ^ n * 1 ≤ BS ^ n * t := Nat.mul_le_mul_left _ ht
    omega
  · exact q
theorem dig_take_of {W : List Nat} {i : Nat} (h : ∀ j, j < i → dg W j < BS) : Dig (W.take i) := by
  intro x hx
  obtain ⟨j, hj, rfl⟩ := List.getElem_of_mem hx
  have hj2 := hj
  rw [List.length_take] at hj2
  have hj3 : j < W.length := by omega
  have := h j (by omega)
  simp only [dg, List.getD_eq_getElem?_getD, List.getElem?_eq_getElem hj3, Option.getD_some] at this
  rw [List.getElem_take]; exact this
theorem vt_lt' {W : List Nat} {i : Nat} (h : Dig (W.take i)) : val (W.take i) < BS ^ i :=
  Nat.lt_of_lt_of_le (val_lt h) (Nat.pow_le_pow_right (by decide) (by simp; omega))
theorem div_leaf {A B n : Nat} {W q : List Nat} (hn : (limbs B).length = n + 2) (hb1 : ¬ A < B) (hq : Dig q) (hql : q.length = (limbs A).length + 1 + 1 - (n + 2))
    (hdn : val q = A / B ∧ vt W (n + 2) / scl B = A % B ∧ vt W (n + 2) = A % B * scl B) :
    lC (divQ A B) = PC.sl ((limbs A).length + 1 + 1 - (n + 2)) (u32s (q.take ((limbs A).length + 1 + 1 - (n + 2)))) ∧ lC (divR A B) = lC (fl (limbs (val (W.take (n + 2)))).length (val (W.take (n + 2)) / scl B)) := by
  obtain ⟨h1, h2, h3⟩ := hdn
  have e : val (W.take (n + 2)) = vt W (n + 2) := rfl
  rw [(divQ3 (by omega) hb1).1, (divQ3 (by omega) hb1).2, List.take_of_length_le (by omega), sl_u32s hql.symm, e, h2, h3, ← h1, hn]
  refine ⟨?_, rfl⟩
  have := fl_val hq
  rw [hql] at this
  exact congrArg lC this
theorem nc_tdivL (b : Nat) : (1000000000 : Int).tdiv (b : Int) = ((1000000000 / b : Nat) : Int) := nc_tdiv 1000000000 b
attribute [go_sem] nc_tdivL
end Go.PL

set_option linter.unusedSimpArgs false
set_option linter.unusedVariables false
set_option maxRecDepth 20000
namespace Go.Proofs.YtdojhoegildiaaaGreat
open Go Go.PL
set_option maxHeartbeats 8000000 in
theorem c_integer_divide (A B : Nat) (hA : (limbs A).length ≤ 1000000) (hB : (limbs B).length ≤ 1000000) (hB0 : 0 < B) :
    Ret Tryz.prog 141 [.c (lC (limbs A)), .c (lC (limbs B))] (.t [.c (lC (divQ A B)), .c (lC (divR A B))]) := by
  refine ret_of_body (md := { ow := fun f => f == 124 }) Tryz.func141 (by kernel_rfl) rfl ?_; simp only [Tryz.f141, go_sem, Nat.reduceAdd, Nat.reduceSub, List.reduceReplicate]; have hl0 := limbs_lt0 hB0; refine pwx_sr 0 [] (by rfl) fun _ K1 => ?_; simp (disch := omega) only [go_sem]; refine K1 _ ?_; clear K1; refine pwx_sr 0 [] (by rfl) fun _ K2 => ?_; refine rgnX_take 2 fun _ K3 => ?_; simp (disch := omega) only [go_sem]; refine ⟨_, c_integer_trim _ (limbs_dig _) (by omega), ?_⟩; refine K3 _ ?_; refine rgnX_take 2 fun _ K4 => ?_; simp (disch := omega) only [go_sem]; refine ⟨_, c_integer_trim _ (limbs_dig _) (by omega), ?_⟩; refine K4 _ ?_; simp (disch := omega) only [go_sem]; refine K2 _ ?_; clear K4 K3 K2; refine pwp_seq ?_; refine pwx_sr 0 [] (by rfl) fun _ K5 => ?_; simp (disch := omega) only [go_sem]; refine K5 _ ?_; clear K5; refine pwp_cond (b := _) (by rfl) (fun hb0 => ?_) (fun hb0 => ?_)
  · replace hb0 := of_decide_eq_true hb0
    have hl1 : (limbs B).length = 1 := by omega
    have hd0 := dg_lt9 (limbs_dig B) 0; have hd1 := len1 hl1; refine pwx_sr 0 [] (by rfl) fun _ K6 => ?_; refine rgnX_take 5 fun _ K7 => ?_; simp (disch := omega) only [go_sem]; refine ⟨_, c_integer_byWord _ (limbs_dig _) (by omega) _ (by omega) (by omega), ?_⟩; refine K7 _ ?_; simp (disch := omega) only [go_sem]; refine K6 _ ?_; clear K7 K6; refine pwp_ret ?_; refine r_then ?_; refine ⟨Or.inr rfl, ?_⟩; simp (disch := omega) only [go_sem]
    rw [(divQ1 hl1).1, (divQ1 hl1).2, hd1]; exact ⟨rfl, rfl⟩
  · first | replace hb0 := of_decide_eq_false hb0 | skip
    refine pwp_skip ?_; refine n_then ?_; refine pwp_seq ?_; refine pwx_sr 0 [] (by rfl) fun _ K8 => ?_; refine rgnX_take 3 fun _ K9 => ?_; simp (disch := omega) only [go_sem]; refine ⟨_, c_integer_compare _ (limbs_dig _) (by omega) _ (limbs_dig _) (by omega), ?_⟩; refine K9 _ ?_; simp (disch := omega) only [go_sem]; refine K8 _ ?_; clear K9 K8; refine pwp_cond (b := _) (by rfl) (fun hb1 => ?_) (fun hb1 => ?_)
    · first | replace hb1 := of_decide_eq_true hb1 | skip
      refine pwx_sr 1 [] (by rfl) fun _ K10 => ?_; simp (disch := omega) only [go_sem]; refine K10 _ ?_; clear K10; refine pwp_ret ?_; refine r_then ?_; refine ⟨Or.inr rfl, ?_⟩; simp (disch := omega) only [go_sem]
      rw [cmpN_ltz] at hb1; rw [(divQ2 (by omega) hb1).1, (divQ2 (by omega) hb1).2]; exact ⟨rfl, rfl⟩
    · replace hb1 := of_decide_eq_false hb1; rw [cmpN_ltz] at hb1; obtain ⟨n, hn⟩ : ∃ n, (limbs B).length = n + 2 := ⟨(limbs B).length - 2, by omega⟩; obtain ⟨hvl, hvt, hs0, hs5⟩ := scaled_v (n := n + 1) hn (s := scl B) (by unfold scl; rw [hn]; rfl); have hd9 := dg_lt9 (limbs_dig B) ((limbs B).length - 1); have hsc : 1000000000 / (dg (limbs B) ((limbs B).length - 1) + 1) = scl B := rfl
      have hs6 : 1000000000 / (dg (limbs B) ((limbs B).length - 1) + 1) < 4294967296 := by rw [hsc]; omega
      have hBA : (limbs B).length ≤ (limbs A).length := limbs_len_mono (by omega)
      have hVlt : B * scl B < BS ^ (n + 2) := by have := limbs_lt (B * scl B); rwa [hvl] at this
      have hV0 : 0 < B * scl B := Nat.mul_pos hB0 hs0; refine pwp_skip ?_; refine n_then ?_; refine pwx_sr 0 [] (by rfl) fun _ K11 => ?_; simp (disch := omega) only [go_sem]; refine K11 _ ?_; clear K11; refine pwx_sr 0 [] (by rfl) fun _ K12 => ?_; simp (disch := omega) only [go_sem, hsc]; refine K12 _ ?_; clear K12; refine pwx_sr 3 [] (by rfl) fun _ K13 => ?_; refine rgnX_take 4 fun _ K14 => ?_; simp (disch := omega) only [go_sem, fl_length, fl_take, u32s_cons0, u32s_append, le_F, val_single, limbs_val, List.length_cons, List.length_nil, Nat.zero_add]; refine Or.inr ⟨_, o_integer_times (limbs A) (limbs_dig _) (by omega) [scl B] (Dig.cons (show scl B < 1000000000 by omega) Dig.nil) (by simp) _, ?_⟩
      rintro _ _ ⟨rfl, rfl⟩
      refine K14 _ ?_; simp (disch := omega) only [go_sem, fl_length, fl_take, u32s_cons0, u32s_append, le_F, val_single, limbs_val, List.length_cons, List.length_nil, Nat.zero_add]; intro cp hcp; refine K13 _ ?_; clear K14 K13; refine pwx_sr 1 [] (by rfl) fun _ K15 => ?_; refine rgnX_take 4 fun _ K16 => ?_; simp (disch := omega) only [go_sem, val_single, times_v1]; refine Or.inl ⟨_, c_integer_times (limbs B) (limbs_dig _) (by omega) [scl B] (Dig.cons (show scl B < 1000000000 by omega) Dig.nil) (by simp), ?_⟩; refine K16 _ ?_; refine rgnX_take 1 fun _ K17 => ?_; simp (disch := omega) only [go_sem, val_single, times_v1]; refine ⟨_, c_integer_trim _ (fl_dig _ _) (by simp; omega), ?_⟩; refine K17 _ ?_; simp (disch := omega) only [go_sem, val_single, times_v1]; refine K15 _ ?_; clear K17 K16 K15; refine pwx_sr 1 [] (by rfl) fun _ K18 => ?_; simp (disch := omega) only [go_sem]; refine K18 _ ?_; clear K18; refine pwp_seq ?_; refine pwx_sr 0 [] (by rfl) fun _ K19 => ?_; simp (disch := omega) only [go_sem]; refine K19 _ ?_; clear K19; refine pwp_block ?_; refine pwp_loopF (false :: false :: false :: false :: false :: false :: true :: true :: true :: true :: true :: true :: false :: false :: false :: false :: false :: false :: false :: false :: false :: false :: false :: false :: false :: false :: false :: false :: false :: false :: false :: false :: false :: false :: false :: false :: false :: false :: false :: false :: false :: false :: false :: false :: false :: false :: false :: false :: false :: false :: false :: false :: false :: false :: false :: false :: false :: false :: false :: false :: false :: false :: false :: false :: false :: false :: false :: false :: false :: false :: false :: false :: false :: false :: false :: false :: false :: false :: false :: false :: false :: false :: false :: false :: false :: false :: false :: false :: false :: false :: false :: false :: false :: false :: false :: false :: false :: false :: false :: false :: false :: false :: false :: false :: false :: false :: false :: false :: false :: false :: false :: false :: false :: false :: false :: false :: false :: false :: false :: false :: false :: false :: false :: false :: false :: false :: false :: false :: false :: false :: false :: false :: false :: false :: false :: false :: false :: false :: false :: false :: false :: false :: false :: false :: false :: false :: false :: false :: false :: false :: false :: false :: false :: false :: false :: false :: false :: false :: false :: false :: false :: false :: false :: false :: false :: false :: false :: false :: false :: false :: false :: false :: false :: false :: false :: false :: false :: false :: false :: []) 6 (fun M s => ∃ kk : Nat, ∃ W : List Nat, ∃ q : List Nat, (kk + (n + 2) ≤ ((limbs A).length + 1 + 1)) ∧ (DivI (A * scl B) (B * scl B) (n + 2) ((limbs A).length + 1 + 1) cp kk W q) ∧ kk = M ∧ s = { slots := .j :: .j :: .j :: .j :: .j :: .j :: .e (.c (.int .i64 ((n + 2 : Nat) : Int))) :: .e (.c (.int .u32 (scl B : Int))) :: .e (.c (.msl 2 0 ((limbs A).length + 1 + 1) cp 1)) :: .e (.c (lC (limbs (B * scl B)))) :: .e (.c (.msl 5 0 (((limbs A).length + 1 + 1) - (n + 2)) (((limbs A).length + 1 + 1) - (n + 2)) 1)) :: .e (.c (.int .i64 ((kk : Int) - 1))) :: .j :: .j :: .j :: .j :: .j :: .j :: .j :: .j :: .j :: .j :: .j :: .j :: .j :: .j :: .j :: .j :: .j :: .j :: .j :: .j :: .j :: .j :: .j :: .j :: .j :: .j :: .j :: .j :: .j :: .j :: .j :: .j :: .j :: .j :: .j :: .j :: .j :: .j :: .j :: .j :: .j :: .j :: .j :: .j :: .j :: .j :: .j :: .j :: .j :: .j :: .j :: .j :: .j :: .j :: .j :: .j :: .j :: .j :: .j :: .j :: .j :: .j :: .j :: .j :: .j :: .j :: .j :: .j :: .j :: .j :: .j :: .j :: .j :: .j :: .j :: .j :: .j :: .j :: .j :: .j :: .j :: .j :: .j :: .j :: .j :: .j :: .j :: .j :: .j :: .j :: .j :: .j :: .j :: .j :: .j :: .j :: .j :: .j :: .j :: .j :: .j :: .j :: .j :: .j :: .j :: .j :: .j :: .j :: .j :: .j :: .j :: .j :: .j :: .j :: .j :: .j :: .j :: .j :: .j :: .j :: .j :: .j :: .j :: .j :: .j :: .j :: .j :: .j :: .j :: .j :: .j :: .j :: .j :: .j :: .j :: .j :: .j :: .j :: .j :: .j :: .j :: .j :: .j :: .j :: .j :: .j :: .j :: .j :: .j :: .j :: .j :: .j :: .j :: .j :: .j :: .j :: .j :: .j :: .j :: .j :: .j :: .j :: .j :: .j :: .j :: .j :: .j :: [], st := [.gone, .gone, .live (u32s W), .live (u32s (fl ((limbs A).length + 1) (A * scl B))), .gone, .live (u32s q)] }) (n := ((limbs A).length + 1 + 1) - (n + 2)) rfl ?_ ?_ ?_
      · refine ⟨((limbs A).length + 1 + 1) - (n + 2), fl ((limbs A).length + 1) (A * scl B) ++ 0 :: List.replicate (cp - ((limbs A).length + 1 + 1)) 0, List.replicate (((limbs A).length + 1 + 1) - (n + 2)) 0, ?_, ?_, rfl, ?_⟩
        · omega
        · exact DivI.start rfl (limbs_lt A) (by omega) hcp (limbs_ge hvl) (by omega)
        · first | rfl | (simp only [hn, St.cut, keep, if_true, if_false, Bool.false_eq_true, List.take_succ_cons, List.take_zero, List.take_nil]; try simp; try omega)
      · refine ⟨rfl, ?_, ?_⟩ <;> first | rfl | (simp [keep, PV.lt, PE.lt, PC.lt, Box.lt, ↓lC_lt]; done) | simp [keep, PV.lt, PE.lt, PC.lt, Box.lt, ↓lC_lt, ↓intC_lt, ↓ratC_lt, ↓u32s_lt]
      · rintro _ _ ⟨kk, W, q, hkk, hD, rfl, rfl⟩
        refine pwp_seq ?_; refine pwx_sr 0 [] (by rfl) fun _ K20 => ?_; simp (disch := omega) only [go_sem]; refine K20 _ ?_; clear K20; refine pwp_cond (b := _) (by rfl) (fun hb2 => ?_) (fun hb2 => ?_)
        · replace hb2 := of_decide_eq_true hb2; obtain ⟨k, rfl⟩ : ∃ j, kk = j + 1 := ⟨kk - 1, by omega⟩
          have hi0 : k + (n + 2) = k + n + 2 := by omega
          have hi1 : k + n + 2 - 1 = k + n + 1 := by omega
          have hi2 : k + n + 2 - 2 = k + n := by omega
          have hi3 : k + n + 2 + 1 - k = n + 2 + 1 := by omega
          have hv1 : n + 2 - 1 = n + 1 := by omega
          have hv2 : n + 2 - 2 = n := by omega
          have hx0 : dg W (k + n) < 1000000000 := hD.dig _ (by omega); have hx1 : dg W (k + n + 1) < 1000000000 := hD.dig _ (by omega); have hx2 : dg W (k + n + 2) < 1000000000 := hD.dig _ (by omega); have hvl9 := dg_lt9 (limbs_dig (B * scl B)) n; have hvh9 := dg_lt9 (limbs_dig (B * scl B)) (n + 1); have hlen := hD.len; have hql := hD.qlen; obtain ⟨lo, hlo, hWn⟩ := win_parts (W := W) (k := k) (n := n) (fun j a b => hD.dig j (by omega)); obtain ⟨lv, hlv, hVn⟩ := lim_parts hvl; have hwd := (hD.wind hVlt (by omega)).2; have hg0 := guess0 hWn hVn hlo hlv hx0 hvl9 (show 1000000000 ≤ 2 * dg (limbs (B * scl B)) (n + 1) by omega) hwd; have htq : (dg W (k + n + 2) * 1000000000 + dg W (k + n + 1)) / dg (limbs (B * scl B)) (n + 1) ≤ 1000000001 := hg0.2; have hw64 := wu64 (n := (dg W (k + n + 2) * 1000000000 + dg W (k + n + 1)) / dg (limbs (B * scl B)) (n + 1)) (Nat.lt_of_le_of_lt htq (by decide)); have htm : (dg W (k + n + 2) * 1000000000 + dg W (k + n + 1)) % dg (limbs (B * scl B)) (n + 1) < 1000000000 := Nat.lt_trans (Nat.mod_lt _ (by omega)) hvh9; refine pwp_skip ?_; refine n_then ?_; refine pwp_seq ?_; refine pwp_block ?_; refine pwx_sd Tryz.mixed 0 [] (by rfl) [] (by kernel_rfl) (by simp) fun _ K21 => ?_; simp (disch := omega) only [go_sem, hi0, hi1, hi2, hi3, hv1, hv2, nc_sub2]; refine K21 _ ?_; clear K21; refine pwx_sd Tryz.mixed 0 [] (by rfl) [] (by kernel_rfl) (by simp) fun _ K22 => ?_; simp (disch := omega) only [go_sem, hi0, hi1, hi2, hi3, hv1, hv2, nc_sub2, hw64]; refine K22 _ ?_; clear K22; refine pwp_seq ?_; refine pwp_block ?_; refine pwp_loopF (false :: false :: false :: false :: false :: false :: true :: true :: true :: true :: true :: true :: false :: true :: true :: false :: false :: false :: false :: false :: false :: false :: false :: false :: false :: false :: false :: false :: false :: false :: false :: false :: false :: false :: false :: false :: false :: false :: false :: false :: false :: false :: false :: false :: false :: false :: false :: false :: false :: false :: false :: false :: false :: false :: false :: false :: false :: false :: false :: false :: false :: false :: false :: false :: false :: false :: false :: false :: false :: false :: false :: false :: false :: false :: false :: false :: false :: false :: false :: false :: false :: false :: false :: false :: false :: false :: false :: false :: false :: false :: false :: false :: false :: false :: false :: false :: false :: false :: false :: false :: false :: false :: false :: false :: false :: false :: false :: false :: false :: false :: false :: false :: false :: false :: false :: false :: false :: false :: false :: false :: false :: false :: false :: false :: false :: false :: false :: false :: false :: false :: false :: false :: false :: false :: false :: false :: false :: false :: false :: false :: false :: false :: false :: false :: false :: false :: false :: false :: false :: false :: false :: false :: false :: false :: false :: false :: false :: false :: false :: false :: false :: false :: false :: false :: false :: false :: false :: false :: false :: false :: false :: false :: false :: false :: false :: false :: false :: false :: false :: []) 6 (fun M s => ∃ guess : Nat, ∃ rest : Nat, (guess * dg (limbs (B * scl B)) (n + 1) + rest = dg W (k + n + 2) * 1000000000 + dg W (k + n + 1)) ∧ (win W k (n + 2 + 1) / (B * scl B) ≤ guess) ∧ (guess ≤ 1000000001) ∧ (rest < 1000000000) ∧ guess = M ∧ s = { slots := .j :: .j :: .j :: .j :: .j :: .j :: .e (.c (.int .i64 ((n + 2 : Nat) : Int))) :: .e (.c (.int .u32 (scl B : Int))) :: .e (.c (.msl 2 0 ((limbs A).length + 1 + 1) cp 1)) :: .e (.c (lC (limbs (B * scl B)))) :: .e (.c (.msl 5 0 (((limbs A).length + 1 + 1) - (n + 2)) (((limbs A).length + 1 + 1) - (n + 2)) 1)) :: .e (.c (.int .i64 (k : Int))) :: .j :: .e (.c (.int .u64 (guess : Int))) :: .e (.c (.int .u64 (rest : Int))) :: .j :: .j :: .j :: .j :: .j :: .j :: .j :: .j :: .j :: .j :: .j :: .j :: .j :: .j :: .j :: .j :: .j :: .j :: .j :: .j :: .j :: .j :: .j :: .j :: .j :: .j :: .j :: .j :: .j :: .j :: .j :: .j :: .j :: .j :: .j :: .j :: .j :: .j :: .j :: .j :: .j :: .j :: .j :: .j :: .j :: .j :: .j :: .j :: .j :: .j :: .j :: .j :: .j :: .j :: .j :: .j :: .j :: .j :: .j :: .j :: .j :: .j :: .j :: .j :: .j :: .j :: .j :: .j :: .j :: .j :: .j :: .j :: .j :: .j :: .j :: .j :: .j :: .j :: .j :: .j :: .j :: .j :: .j :: .j :: .j :: .j :: .j :: .j :: .j :: .j :: .j :: .j :: .j :: .j :: .j :: .j :: .j :: .j :: .j :: .j :: .j :: .j :: .j :: .j :: .j :: .j :: .j :: .j :: .j :: .j :: .j :: .j :: .j :: .j :: .j :: .j :: .j :: .j :: .j :: .j :: .j :: .j :: .j :: .j :: .j :: .j :: .j :: .j :: .j :: .j :: .j :: .j :: .j :: .j :: .j :: .j :: .j :: .j :: .j :: .j :: .j :: .j :: .j :: .j :: .j :: .j :: .j :: .j :: .j :: .j :: .j :: .j :: .j :: .j :: .j :: .j :: .j :: .j :: .j :: .j :: .j :: .j :: .j :: .j :: [], st := [.gone, .gone, .live (u32s W), .live (u32s (fl ((limbs A).length + 1) (A * scl B))), .gone, .live (u32s q)] }) (n := (dg W (k + n + 2) * 1000000000 + dg W (k + n + 1)) / dg (limbs (B * scl B)) (n + 1)) rfl ?_ ?_ ?_
          · refine ⟨(dg W (k + n + 2) * 1000000000 + dg W (k + n + 1)) / dg (limbs (B * scl B)) (n + 1), (dg W (k + n + 2) * 1000000000 + dg W (k + n + 1)) % dg (limbs (B * scl B)) (n + 1), ?_, ?_, ?_, ?_, rfl, ?_⟩
            · rw [Nat.mul_comm]; exact Nat.div_add_mod _ _
            · exact hg0.1
            · exact hg0.2
            · exact Nat.lt_trans (Nat.mod_lt _ (by omega)) hvh9
            · first | rfl | simp [St.cut, keep]
          · refine ⟨rfl, ?_, ?_⟩ <;> first | rfl | (simp [keep, PV.lt, PE.lt, PC.lt, Box.lt, ↓lC_lt]; done) | simp [keep, PV.lt, PE.lt, PC.lt, Box.lt, ↓lC_lt, ↓intC_lt, ↓ratC_lt, ↓u32s_lt]
          · rintro _ _ ⟨guess, rest, hg, hq, hgB, hrB, rfl, rfl⟩
            have hmm : guess * dg (limbs (B * scl B)) n ≤ 1000000001 * dg (limbs (B * scl B)) n := Nat.mul_le_mul_right _ hgB; refine pwp_seq ?_; by_cases hge : 1000000000 ≤ guess
            · refine pwx_sd Tryz.mixed 0 [some 106, some 107, some 108, some 109, some 110, some 111, some 112, some 113, some 114, some 115, some 116, some 117, some 118, some 119, some 120, some 121, some 122, some 123, some 124, some 125, some 126, some 127, some 128, some 129] (by rfl) [] (by kernel_rfl) (by simp) fun _ K23 => ?_; simp (disch := omega) only [go_sem, hi0, hi1, hi2, hi3, hv1, hv2, nc_sub2]; refine K23 _ ?_; clear K23; refine pwp_cond (b := true) (by rfl) (fun _ => ?_) (fun h => nomatch h); refine pwp_skip ?_; refine n_then ?_; refine pwp_block ?_; have hdec := guess_dec hWn hVn hlo hV0 hwd hg hq (by first | exact .inl hge | exact .inr (by show rest * 1000000000 + _ < _; omega))
              have hgm : (guess - 1) * dg (limbs (B * scl B)) (n + 1) + (rest + dg (limbs (B * scl B)) (n + 1)) = dg W (k + n + 2) * 1000000000 + dg W (k + n + 1) := by obtain ⟨g', rfl⟩ : ∃ g', guess = g' + 1 := ⟨guess - 1, by omega⟩; rw [Nat.add_sub_cancel, ← hg, Nat.add_mul, Nat.one_mul]; omega
              refine pwx_sr 0 [] (by rfl) fun _ K24 => ?_; simp (disch := omega) only [go_sem]; refine K24 _ ?_; clear K24; refine pwx_sr 0 [] (by rfl) fun _ K25 => ?_; simp (disch := omega) only [go_sem, hi0, hi1, hi2, hi3, hv1, hv2, nc_sub2]; refine K25 _ ?_; clear K25; have hgc : (guess - 1) * dg (limbs (B * scl B)) n ≤ (rest + dg (limbs (B * scl B)) (n + 1)) * 1000000000 + dg W (k + n) ∨ rest + dg (limbs (B * scl B)) (n + 1) < 1000000000 := (Nat.lt_or_ge (rest + dg (limbs (B * scl B)) (n + 1)) 1000000000).elim (fun q => .inr q) (fun q => .inl (by have := Nat.mul_le_mul (show guess - 1 ≤ 1000000000 by omega) (Nat.le_of_lt hvl9); omega)); refine pwx_sr 0 [] (by rfl) fun _ K26 => ?_; simp (disch := omega) only [go_sem]; refine K26 _ ?_; clear K26; refine pwp_cond (b := _) (by rfl) (fun hb4 => ?_) (fun hb4 => ?_)
              · replace hb4 := of_decide_eq_true hb4; have hfin : (guess - 1) ≤ win W k (n + 2 + 1) / (B * scl B) + 1 := guess_fin hWn hVn hlv (by omega) hgm (by show (guess - 1) ≤ 1000000000; omega) (show _ ≤ (rest + dg (limbs (B * scl B)) (n + 1)) * 1000000000 + _ from hgc.elim id (fun q => by omega)); refine pwp_exit ?_; refine e_block (by decide) ?_; refine e_then ?_; refine e_here ?_; refine n_then ?_; refine pwp_seq ?_; refine pwx_sr 0 [] (by rfl) fun _ K27 => ?_; simp (disch := omega) only [go_sem, hi0, hi1, hi2, hi3, hv1, hv2, nc_sub2, cutm]; refine Or.inr ⟨_, c_integer_subtract W (limbs (B * scl B)) (limbs_dig _) k (n + 2 + 1) (cp - k) (by omega) (by omega) (by omega) (fun j a b => hD.dig j (by omega)) _ (by omega) 2 _ rfl, ?_⟩
                rintro _ _ ⟨_, ⟨W1, neg, hS, rfl, rfl⟩, rfl⟩
                refine K27 _ ?_; clear K27; refine pwp_cond (b := _) (by rfl) (fun hb5 => ?_) (fun hb5 => ?_)
                · subst hb5; have hS1 := hS.len; have hgp := hS.gpos; refine pwx_sr 0 [] (by rfl) fun _ K29 => ?_; simp (disch := omega) only [go_sem]; refine K29 _ ?_; clear K29; refine pwx_region 0 [] (by rfl) fun _ K30 => ?_; simp (disch := omega) only [go_sem, hi0, hi1, hi2, hi3, hv1, hv2, nc_sub2, cutm]; refine Or.inr ⟨_, c_integer_restore W1 (limbs (B * scl B)) (limbs_dig _) k (n + 2 + 1) (cp - k) (by omega) (by omega) (by omega) (fun j a b => hS.dig j (by omega) (by omega)) 2 _ rfl, ?_⟩
                  rintro _ _ ⟨_, ⟨W2, hR, rfl, rfl⟩, rfl⟩
                  refine K30 _ ?_; clear K30; refine n_then ?_; refine pwx_region 0 [] (by rfl) fun _ K32 => ?_; simp (disch := omega) only [go_sem]; refine K32 _ ?_; clear K32; refine n_block ?_; refine n_then ?_; refine pwx_region 0 [] (by rfl) fun _ K33 => ?_; simp (disch := omega) only [go_sem]; refine K33 _ ?_; clear K33; refine n_then ?_; refine ⟨_, ?hdec, ⟨k, W2, q.set k (guess - 1 - 1), ?hf0, ?hf1, rfl, ?heq⟩, ?hok⟩
                  case heq => first | rfl | (simp only [hn, St.cut, keep, if_true, if_false, Bool.false_eq_true, List.take_succ_cons, List.take_zero, List.take_nil]; try simp; try omega)
                  case hf0 => omega
                  case hf1 => exact hD.stepB (limbs_val _) hVlt hV0 (by omega) hS hR hfin
                  case hdec => omega
                  case hok => refine ⟨rfl, ?_, ?_⟩ <;> first | rfl | (simp [keep, PV.lt, PE.lt, PC.lt, Box.lt, ↓lC_lt]; done) | simp [keep, PV.lt, PE.lt, PC.lt, Box.lt, ↓lC_lt, ↓intC_lt, ↓ratC_lt, ↓u32s_lt]
                · subst hb5; refine pwp_skip ?_; refine n_then ?_; refine pwx_region 0 [] (by rfl) fun _ K34 => ?_; simp (disch := omega) only [go_sem]; refine K34 _ ?_; clear K34; refine n_block ?_; refine n_then ?_; refine pwx_region 0 [] (by rfl) fun _ K35 => ?_; simp (disch := omega) only [go_sem]; refine K35 _ ?_; clear K35; refine n_then ?_; refine ⟨_, ?hdec, ⟨k, W1, q.set k (guess - 1), ?hf0, ?hf1, rfl, ?heq⟩, ?hok⟩
                  case heq => first | rfl | (simp only [hn, St.cut, keep, if_true, if_false, Bool.false_eq_true, List.take_succ_cons, List.take_zero, List.take_nil]; try simp; try omega)
                  case hf0 => omega
                  case hf1 => exact hD.stepA (limbs_val _) hVlt hV0 (by omega) hS hdec.2
                  case hdec => omega
                  case hok => refine ⟨rfl, ?_, ?_⟩ <;> first | rfl | (simp [keep, PV.lt, PE.lt, PC.lt, Box.lt, ↓lC_lt]; done) | simp [keep, PV.lt, PE.lt, PC.lt, Box.lt, ↓lC_lt, ↓intC_lt, ↓ratC_lt, ↓u32s_lt]
              · first | replace hb4 := of_decide_eq_false hb4 | skip
                refine pwp_skip ?_; refine n_block ?_; refine n_then ?_; refine ⟨_, ?hdec, ⟨guess - 1, rest + dg (limbs (B * scl B)) (n + 1), ?hf0, ?hf1, ?hf2, ?hf3, rfl, ?heq⟩, ?hok⟩
                case heq => first | rfl | simp [St.cut, keep]
                case hf0 => exact hgm
                case hf1 => exact hdec.2
                case hf2 => omega
                case hf3 => omega
                case hdec => have := hdec.1; omega
                case hok => refine ⟨rfl, ?_, ?_⟩ <;> first | rfl | (simp [keep, PV.lt, PE.lt, PC.lt, Box.lt, ↓lC_lt]; done) | simp [keep, PV.lt, PE.lt, PC.lt, Box.lt, ↓lC_lt, ↓intC_lt, ↓ratC_lt, ↓u32s_lt]
            · refine pwx_sd Tryz.mixed 0 [some 106, some 107, some 108, some 109, some 110, some 111, some 112, some 113, some 114, some 115, some 116, some 117, some 118, some 119, some 120, some 121, some 122, some 123, some 124, some 125, some 126, some 127, some 128, some 129] (by rfl) [] (by kernel_rfl) (by simp) fun _ K36 => ?_; simp (disch := omega) only [go_sem, hi0, hi1, hi2, hi3, hv1, hv2, nc_sub2]; refine K36 _ ?_; clear K36; refine pwp_cond (b := _) (by rfl) (fun hb6 => ?_) (fun hb6 => ?_)
              · first | replace hb6 := of_decide_eq_true hb6 | skip
                refine pwp_skip ?_; refine n_then ?_; refine pwp_block ?_; have hdec := guess_dec hWn hVn hlo hV0 hwd hg hq (by first | exact .inl hge | exact .inr (by show rest * 1000000000 + _ < _; omega))
                have hgm : (guess - 1) * dg (limbs (B * scl B)) (n + 1) + (rest + dg (limbs (B * scl B)) (n + 1)) = dg W (k + n + 2) * 1000000000 + dg W (k + n + 1) := by obtain ⟨g', rfl⟩ : ∃ g', guess = g' + 1 := ⟨guess - 1, by omega⟩; rw [Nat.add_sub_cancel, ← hg, Nat.add_mul, Nat.one_mul]; omega
                refine pwx_sr 0 [] (by rfl) fun _ K37 => ?_; simp (disch := omega) only [go_sem]; refine K37 _ ?_; clear K37; refine pwx_sr 0 [] (by rfl) fun _ K38 => ?_; simp (disch := omega) only [go_sem, hi0, hi1, hi2, hi3, hv1, hv2, nc_sub2]; refine K38 _ ?_; clear K38; have hgc : (guess - 1) * dg (limbs (B * scl B)) n ≤ (rest + dg (limbs (B * scl B)) (n + 1)) * 1000000000 + dg W (k + n) ∨ rest + dg (limbs (B * scl B)) (n + 1) < 1000000000 := (Nat.lt_or_ge (rest + dg (limbs (B * scl B)) (n + 1)) 1000000000).elim (fun q => .inr q) (fun q => .inl (by have := Nat.mul_le_mul (show guess - 1 ≤ 1000000000 by omega) (Nat.le_of_lt hvl9); omega)); refine pwx_sr 0 [] (by rfl) fun _ K39 => ?_; simp (disch := omega) only [go_sem]; refine K39 _ ?_; clear K39; refine pwp_cond (b := _) (by rfl) (fun hb7 => ?_) (fun hb7 => ?_)
                · replace hb7 := of_decide_eq_true hb7; have hfin : (guess - 1) ≤ win W k (n + 2 + 1) / (B * scl B) + 1 := guess_fin hWn hVn hlv (by omega) hgm (by show (guess - 1) ≤ 1000000000; omega) (show _ ≤ (rest + dg (limbs (B * scl B)) (n + 1)) * 1000000000 + _ from hgc.elim id (fun q => by omega)); refine pwp_exit ?_; refine e_block (by decide) ?_; refine e_then ?_; refine e_here ?_; refine n_then ?_; refine pwp_seq ?_; refine pwx_sr 0 [] (by rfl) fun _ K40 => ?_; simp (disch := omega) only [go_sem, hi0, hi1, hi2, hi3, hv1, hv2, nc_sub2, cutm]; refine Or.inr ⟨_, c_integer_subtract W (limbs (B * scl B)) (limbs_dig _) k (n + 2 + 1) (cp - k) (by omega) (by omega) (by omega) (fun j a b => hD.dig j (by omega)) _ (by omega) 2 _ rfl, ?_⟩
                  rintro _ _ ⟨_, ⟨W1, neg, hS, rfl, rfl⟩, rfl⟩
                  refine K40 _ ?_; clear K40; refine pwp_cond (b := _) (by rfl) (fun hb8 => ?_) (fun hb8 => ?_)
                  · subst hb8; have hS1 := hS.len; have hgp := hS.gpos; refine pwx_sr 0 [] (by rfl) fun _ K42 => ?_; simp (disch := omega) only [go_sem]; refine K42 _ ?_; clear K42; refine pwx_region 0 [] (by rfl) fun _ K43 => ?_; simp (disch := omega) only [go_sem, hi0, hi1, hi2, hi3, hv1, hv2, nc_sub2, cutm]; refine Or.inr ⟨_, c_integer_restore W1 (limbs (B * scl B)) (limbs_dig _) k (n + 2 + 1) (cp - k) (by omega) (by omega) (by omega) (fun j a b => hS.dig j (by omega) (by omega)) 2 _ rfl, ?_⟩
                    rintro _ _ ⟨_, ⟨W2, hR, rfl, rfl⟩, rfl⟩
                    refine K43 _ ?_; clear K43; refine n_then ?_; refine pwx_region 0 [] (by rfl) fun _ K45 => ?_; simp (disch := omega) only [go_sem]; refine K45 _ ?_; clear K45; refine n_block ?_; refine n_then ?_; refine pwx_region 0 [] (by rfl) fun _ K46 => ?_; simp (disch := omega) only [go_sem]; refine K46 _ ?_; clear K46; refine n_then ?_; refine ⟨_, ?hdec, ⟨k, W2, q.set k (guess - 1 - 1), ?hf0, ?hf1, rfl, ?heq⟩, ?hok⟩
                    case heq => first | rfl | (simp only [hn, St.cut, keep, if_true, if_false, Bool.false_eq_true, List.take_succ_cons, List.take_zero, List.take_nil]; try simp; try omega)
                    case hf0 => omega
                    case hf1 => exact hD.stepB (limbs_val _) hVlt hV0 (by omega) hS hR hfin
                    case hdec => omega
                    case hok => refine ⟨rfl, ?_, ?_⟩ <;> first | rfl | (simp [keep, PV.lt, PE.lt, PC.lt, Box.lt, ↓lC_lt]; done) | simp [keep, PV.lt, PE.lt, PC.lt, Box.lt, ↓lC_lt, ↓intC_lt, ↓ratC_lt, ↓u32s_lt]
                  · subst hb8; refine pwp_skip ?_; refine n_then ?_; refine pwx_region 0 [] (by rfl) fun _ K47 => ?_; simp (disch := omega) only [go_sem]; refine K47 _ ?_; clear K47; refine n_block ?_; refine n_then ?_; refine pwx_region 0 [] (by rfl) fun _ K48 => ?_; simp (disch := omega) only [go_sem]; refine K48 _ ?_; clear K48; refine n_then ?_; refine ⟨_, ?hdec, ⟨k, W1, q.set k (guess - 1), ?hf0, ?hf1, rfl, ?heq⟩, ?hok⟩
                    case heq => first | rfl | (simp only [hn, St.cut, keep, if_true, if_false, Bool.false_eq_true, List.take_succ_cons, List.take_zero, List.take_nil]; try simp; try omega)
                    case hf0 => omega
                    case hf1 => exact hD.stepA (limbs_val _) hVlt hV0 (by omega) hS hdec.2
                    case hdec => omega
                    case hok => refine ⟨rfl, ?_, ?_⟩ <;> first | rfl | (simp [keep, PV.lt, PE.lt, PC.lt, Box.lt, ↓lC_lt]; done) | simp [keep, PV.lt, PE.lt, PC.lt, Box.lt, ↓lC_lt, ↓intC_lt, ↓ratC_lt, ↓u32s_lt]
                · first | replace hb7 := of_decide_eq_false hb7 | skip
                  refine pwp_skip ?_; refine n_block ?_; refine n_then ?_; refine ⟨_, ?hdec, ⟨guess - 1, rest + dg (limbs (B * scl B)) (n + 1), ?hf0, ?hf1, ?hf2, ?hf3, rfl, ?heq⟩, ?hok⟩
                  case heq => first | rfl | simp [St.cut, keep]
                  case hf0 => exact hgm
                  case hf1 => exact hdec.2
                  case hf2 => omega
                  case hf3 => omega
                  case hdec => have := hdec.1; omega
                  case hok => refine ⟨rfl, ?_, ?_⟩ <;> first | rfl | (simp [keep, PV.lt, PE.lt, PC.lt, Box.lt, ↓lC_lt]; done) | simp [keep, PV.lt, PE.lt, PC.lt, Box.lt, ↓lC_lt, ↓intC_lt, ↓ratC_lt, ↓u32s_lt]
              · replace hb6 := of_decide_eq_false hb6; have hfin : guess ≤ win W k (n + 2 + 1) / (B * scl B) + 1 := guess_fin hWn hVn hlv (by omega) hg (by show guess ≤ 1000000000; omega) (by show _ ≤ rest * 1000000000 + _; omega); refine pwp_exit ?_; refine e_then ?_; refine e_then ?_; refine e_here ?_; refine n_then ?_; refine pwp_seq ?_; refine pwx_sr 0 [] (by rfl) fun _ K49 => ?_; simp (disch := omega) only [go_sem, hi0, hi1, hi2, hi3, hv1, hv2, nc_sub2, cutm]; refine Or.inr ⟨_, c_integer_subtract W (limbs (B * scl B)) (limbs_dig _) k (n + 2 + 1) (cp - k) (by omega) (by omega) (by omega) (fun j a b => hD.dig j (by omega)) _ (by omega) 2 _ rfl, ?_⟩
                rintro _ _ ⟨_, ⟨W1, neg, hS, rfl, rfl⟩, rfl⟩
                refine K49 _ ?_; clear K49; refine pwp_cond (b := _) (by rfl) (fun hb9 => ?_) (fun hb9 => ?_)
                · subst hb9; have hS1 := hS.len; have hgp := hS.gpos; refine pwx_sr 0 [] (by rfl) fun _ K51 => ?_; simp (disch := omega) only [go_sem]; refine K51 _ ?_; clear K51; refine pwx_region 0 [] (by rfl) fun _ K52 => ?_; simp (disch := omega) only [go_sem, hi0, hi1, hi2, hi3, hv1, hv2, nc_sub2, cutm]; refine Or.inr ⟨_, c_integer_restore W1 (limbs (B * scl B)) (limbs_dig _) k (n + 2 + 1) (cp - k) (by omega) (by omega) (by omega) (fun j a b => hS.dig j (by omega) (by omega)) 2 _ rfl, ?_⟩
                  rintro _ _ ⟨_, ⟨W2, hR, rfl, rfl⟩, rfl⟩
                  refine K52 _ ?_; clear K52; refine n_then ?_; refine pwx_region 0 [] (by rfl) fun _ K54 => ?_; simp (disch := omega) only [go_sem]; refine K54 _ ?_; clear K54; refine n_block ?_; refine n_then ?_; refine pwx_region 0 [] (by rfl) fun _ K55 => ?_; simp (disch := omega) only [go_sem]; refine K55 _ ?_; clear K55; refine n_then ?_; refine ⟨_, ?hdec, ⟨k, W2, q.set k (guess - 1), ?hf0, ?hf1, rfl, ?heq⟩, ?hok⟩
                  case heq => first | rfl | (simp only [hn, St.cut, keep, if_true, if_false, Bool.false_eq_true, List.take_succ_cons, List.take_zero, List.take_nil]; try simp; try omega)
                  case hf0 => omega
                  case hf1 => exact hD.stepB (limbs_val _) hVlt hV0 (by omega) hS hR hfin
                  case hdec => omega
                  case hok => refine ⟨rfl, ?_, ?_⟩ <;> first | rfl | (simp [keep, PV.lt, PE.lt, PC.lt, Box.lt, ↓lC_lt]; done) | simp [keep, PV.lt, PE.lt, PC.lt, Box.lt, ↓lC_lt, ↓intC_lt, ↓ratC_lt, ↓u32s_lt]
                · subst hb9; refine pwp_skip ?_; refine n_then ?_; refine pwx_region 0 [] (by rfl) fun _ K56 => ?_; simp (disch := omega) only [go_sem]; refine K56 _ ?_; clear K56; refine n_block ?_; refine n_then ?_; refine pwx_region 0 [] (by rfl) fun _ K57 => ?_; simp (disch := omega) only [go_sem]; refine K57 _ ?_; clear K57; refine n_then ?_; refine ⟨_, ?hdec, ⟨k, W1, q.set k (guess), ?hf0, ?hf1, rfl, ?heq⟩, ?hok⟩
                  case heq => first | rfl | (simp only [hn, St.cut, keep, if_true, if_false, Bool.false_eq_true, List.take_succ_cons, List.take_zero, List.take_nil]; try simp; try omega)
                  case hf0 => omega
                  case hf1 => exact hD.stepA (limbs_val _) hVlt hV0 (by omega) hS hq
                  case hdec => omega
                  case hok => refine ⟨rfl, ?_, ?_⟩ <;> first | rfl | (simp [keep, PV.lt, PE.lt, PC.lt, Box.lt, ↓lC_lt]; done) | simp [keep, PV.lt, PE.lt, PC.lt, Box.lt, ↓lC_lt, ↓intC_lt, ↓ratC_lt, ↓u32s_lt]
        · replace hb2 := of_decide_eq_false hb2
          obtain rfl : kk = 0 := by omega
          have hlen := hD.len; have hdn := hD.done hs0 hB0 hVlt (by omega); have hsl := sl_u32s (n := n + 2) (l := W.take (n + 2)) (by simp; omega)
          have hdt : Dig (W.take (n + 2)) := dig_take_of fun j hj => hD.dig j (by omega)
          have hlT : (limbs (val (W.take (n + 2)))).length ≤ n + 2 := limbs_len (vt_lt' hdt); have hql := hD.qlen; refine pwp_exit ?_; refine e_then ?_; refine e_then ?_; refine e_here ?_; refine n_then ?_; refine pwx_sr 0 [] (by rfl) fun _ K58 => ?_; refine rgnX_take 4 fun _ K59 => ?_; simp (disch := omega) only [go_sem, cutm0, hsl]; refine Or.inl ⟨_, c_integer_trim (W.take (n + 2)) hdt (by simp; omega), ?_⟩; refine K59 _ ?_; refine rgnX_take 2 fun _ K60 => ?_; simp (disch := omega) only [go_sem, cutm0, hsl]; refine ⟨_, c_integer_byWord (limbs (val (W.take (n + 2)))) (limbs_dig _) (by omega) (scl B) hs0 (by omega), ?_⟩; refine K60 _ ?_; simp (disch := omega) only [go_sem, cutm0, hsl]; refine K58 _ ?_; clear K60 K59 K58; refine pwx_sr 0 [] (by rfl) fun _ K61 => ?_; simp (disch := omega) only [go_sem]; refine K61 _ ?_; clear K61; refine pwp_ret ?_; refine ⟨Or.inr rfl, ?_⟩; simp (disch := omega) only [go_sem]; exact div_leaf hn hb1 hD.qdig hql hdn

end Go.Proofs.YtdojhoegildiaaaGreat

namespace Go.PL
theorem ilt_F {a b : Int} (h : ¬ a < b) : (a < b) = False := eq_false h
theorem sg_natAbs (b : Bool) (n : Nat) : (sg b n).natAbs = n := by cases b <;> simp [sg]
theorem limbs_pos_len {n : Nat} (h : n ≠ 0) : 0 < (limbs n).length := by
  rcases Nat.eq_zero_or_pos (limbs n).length with q | q
  · exact absurd (limbs_eq_nil.1 (List.eq_nil_of_length_eq_zero q)) h
  · exact q
theorem dm_pos {x y : Int} (hx : ¬ x < 0) (hy : 0 < y) : sg false (x.natAbs / y.natAbs) = x / y ∧ sg false (x.natAbs % y.natAbs) = x % y := by
  obtain ⟨a, rfl⟩ := Int.eq_ofNat_of_zero_le (show 0 ≤ x by omega)
  obtain ⟨b, rfl⟩ := Int.eq_ofNat_of_zero_le (show 0 ≤ y by omega)
  simp [sg]
theorem dm_uniq {x y q r : Int} (hr0 : 0 ≤ r) (hr : r < y) (h : x = y * q + r) : q = x / y ∧ r = x % y := by
  subst h
  have hy : y ≠ 0 := by omega
  rw [Int.add_comm, Int.add_mul_ediv_left _ _ hy, Int.ediv_eq_zero_of_lt hr0 hr, Int.add_mul_emod_self_left, Int.emod_eq_of_lt hr0 hr]
  exact ⟨by omega, rfl⟩
theorem nat_dm (x y : Int) : (x.natAbs : Int) = (y.natAbs : Int) * ((x.natAbs / y.natAbs : Nat) : Int) + ((x.natAbs % y.natAbs : Nat) : Int) := by
  rw [← Int.natCast_mul, ← Int.natCast_add, Nat.div_add_mod]
theorem dm_neg0 {x y : Int} (hx : x < 0) (hy : 0 < y) (hr : x.natAbs % y.natAbs = 0) : sg true (x.natAbs / y.natAbs) = x / y ∧ sg true (x.natAbs % y.natAbs) = x % y := by
  have h := nat_dm x y
  rw [hr] at h ⊢
  refine dm_uniq (by simp [sg]) (by simp [sg]; exact hy) ?_
  have h1 : (x.natAbs : Int) = -x := by omega
  have h2 : (y.natAbs : Int) = y := by omega
  rw [h1, h2] at h
  simp only [sg, if_true, Int.mul_neg]
  omega
theorem dm_neg1 {x y : Int} (hx : x < 0) (hy : 0 < y) (hr : x.natAbs % y.natAbs ≠ 0) : sg true (x.natAbs / y.natAbs) - 1 = x / y ∧ sg true (x.natAbs % y.natAbs) + y = x % y := by
  have h := nat_dm x y
  have h1 : (x.natAbs : Int) = -x := by omega
  have h2 : (y.natAbs : Int) = y := by omega
  rw [h1, h2] at h
  have hm : x.natAbs % y.natAbs < y.natAbs := Nat.mod_lt _ (by omega)
  generalize x.natAbs % y.natAbs = m at *
  generalize x.natAbs / y.natAbs = k at *
  refine dm_uniq (by simp [sg]; omega) (by simp [sg]; omega) ?_
  simp only [sg, if_true, Int.mul_sub, Int.mul_neg, Int.mul_one]
  omega
theorem sgf_lt (n : Nat) : (sg false n < 0) = False := eq_false (by simp [sg])
theorem sgt_lt {n : Nat} (h : 0 < n) : (sg true n < 0) = True := eq_true (by simp [sg]; omega)
theorem word_val {X : Nat} (h : wordB (X : Int) = true) : wordN (X : Int) = X ∧ X < 1000000000000000000 := by
  simp only [wordB, Int.natAbs_natCast, decide_eq_true_eq] at h
  have h1 := limbs_lt X
  have h2 : BS ^ (limbs X).length ≤ BS ^ 2 := Nat.pow_le_pow_right (by decide) h
  refine ⟨by simp [wordN, h], ?_⟩
  have : BS ^ 2 = 1000000000000000000 := by decide
  omega
theorem len_pos {n : Nat} (h : 0 < (limbs n).length) : 0 < n := by
  rcases Nat.eq_zero_or_pos n with q | q
  · rw [q, limbs_zero] at h; simp at h
  · exact q
theorem nc_ediv (a b : Nat) : (a : Int) / (b : Int) = ((a / b : Nat) : Int) := rfl
theorem nc_tdiv2 (a : Nat) : (a : Int).tdiv 2 = ((a / 2 : Nat) : Int) := nc_tdiv a 2
theorem intC_zero : intC 0 = [.bool false, .sl 0 []] := by simp [intC, limbs_zero, lC]
theorem u32s_cons1 (l : List Nat) : PC.int .u32 1 :: u32s l = u32s (1 :: l) := rfl
theorem nc_ediv2 (a : Nat) : (a : Int) / 2 = ((a / 2 : Nat) : Int) := rfl
theorem newton {n X : Nat} (hX : 0 < X) (h : n < (X + 1) * (X + 1)) (h0 : 0 < n) : (X ≤ (X + n / X) / 2 → Nat.sqrt n = X) ∧ 0 < (X + n / X) / 2 ∧ n < ((X + n / X) / 2 + 1) * ((X + n / X) / 2 + 1) := by
  have h1 : n < X * (n / X + 1) := by
    have := Nat.lt_div_mul_add (a := n) hX
    rw [Nat.mul_add, Nat.mul_one, Nat.mul_comm]; exact this
  have h2 : n / X * X ≤ n := Nat.div_mul_le_self n X
  generalize n / X = q at *
  refine ⟨fun hle => ?_, ?_, ?_⟩
  · have hq : X ≤ q := by omega
    have h3 : X * X ≤ n := Nat.le_trans (Nat.mul_le_mul_right _ hq) h2
    have s1 := Nat.sqrt_le n
    have s2 := Nat.lt_succ_sqrt n
    generalize Nat.sqrt n = s at *
    rcases Nat.lt_trichotomy s X with c | c | c
    · exfalso
      have := Nat.mul_le_mul (show s.succ ≤ X from c) (show s.succ ≤ X from c)
      omega
    · exact c
    · exfalso
      have := Nat.mul_le_mul (show X + 1 ≤ s from c) (show X + 1 ≤ s from c)
      omega
  · rcases Nat.lt_or_ge X 2 with c | c
    · have : X = 1 := by omega
      subst this
      have : 0 < q := by omega
      omega
    · omega
  · have h4 : X + q + 1 ≤ 2 * ((X + q) / 2 + 1) := by omega
    generalize (X + q) / 2 = m at *
    have h5 : (X + q + 1) * (X + q + 1) ≤ 2 * (m + 1) * (2 * (m + 1)) := Nat.mul_le_mul h4 h4
    have h6 : 4 * (X * (q + 1)) ≤ (X + q + 1) * (X + q + 1) := by
      have hsq : ∀ a b : Nat, 4 * (a * b) ≤ (a + b) * (a + b) := by
        intro a b
        rcases Nat.le_total a b with c | c
        · obtain ⟨d, rfl⟩ := Nat.exists_eq_add_of_le c
          have : (a + (a + d)) * (a + (a + d)) = 4 * (a * (a + d)) + d * d := by grind
          omega
        · obtain ⟨d, rfl⟩ := Nat.exists_eq_add_of_le c
          have : (b + d + b) * (b + d + b) = 4 * ((b + d) * b) + d * d := by grind
          omega
      have := hsq X (q + 1)
      rwa [← Nat.add_assoc] at this
    have h7 : 2 * (m + 1) * (2 * (m + 1)) = 4 * ((m + 1) * (m + 1)) := by grind
    omega
theorem sqrt_start {n : Nat} : n < (BS ^ (((limbs n).length + 1) / 2) + 1) * (BS ^ (((limbs n).length + 1) / 2) + 1) := by
  have h1 := limbs_lt n
  have h2 : BS ^ (limbs n).length ≤ BS ^ (((limbs n).length + 1) / 2 + ((limbs n).length + 1) / 2) := Nat.pow_le_pow_right (by decide) (by omega)
  rw [Nat.pow_add] at h2
  generalize BS ^ (((limbs n).length + 1) / 2) = P at *
  have : (P + 1) * (P + 1) = P * P + 2 * P + 1 := by grind
  omega
theorem sqrt_len {n X : Nat} (h0 : 0 < n) (hX : X ≤ BS ^ (((limbs n).length + 1) / 2)) : (limbs X).length ≤ (limbs n).length + 1 ∧ (limbs (n / X)).length ≤ (limbs n).length ∧ (limbs (X + n / X)).length ≤ (limbs n).length + 1 := by
  have hl := limbs_lt0 h0
  have h1 : BS ^ (((limbs n).length + 1) / 2) ≤ BS ^ (limbs n).length := Nat.pow_le_pow_right (by decide) (by omega)
  have h2 := limbs_lt n
  have h3 := Nat.div_le_self n X
  have h4 : BS ^ (limbs n).length * 2 ≤ BS ^ (limbs n).length * BS := Nat.mul_le_mul_left _ (by decide)
  have h5 : 0 < BS ^ (limbs n).length := BS_pos _
  refine ⟨limbs_len ?_, limbs_len ?_, limbs_len ?_⟩ <;> (try rw [Nat.pow_succ]) <;> omega
theorem sqrt_val0 (k c : Nat) : val ((List.replicate k 0 ++ 1 :: List.replicate c 0).take (k + 1)) = BS ^ k ∧ ((List.replicate k 0 ++ 1 :: List.replicate c 0).take (k + 1)).length = k + 1 ∧ Dig ((List.replicate k 0 ++ 1 :: List.replicate c 0).take (k + 1)) := by
  have e : (List.replicate k 0 ++ 1 :: List.replicate c 0).take (k + 1) = List.replicate k 0 ++ [1] := by
    rw [List.take_append, List.length_replicate, List.take_of_length_le (by simp)]
    have : k + 1 - k = 1 := by omega
    rw [this]; rfl
  rw [e, val_snoc, val_rep, List.length_replicate]
  exact ⟨by omega, by simp, (dig_rep k).snoc (by decide)⟩
def sqrtI (z : Int) : Int := if z < 0 then 0 else (Nat.sqrt z.natAbs : Int)
theorem sqrtI_neg {z : Int} (h : z < 0) : sqrtI z = 0 := if_pos h
theorem sqrtI_nat (n : Nat) : sqrtI (n : Int) = (Nat.sqrt n : Int) := by
  unfold sqrtI; rw [if_neg (by omega), Int.natAbs_natCast]
attribute [go_sem] sg_natAbs
end Go.PL
