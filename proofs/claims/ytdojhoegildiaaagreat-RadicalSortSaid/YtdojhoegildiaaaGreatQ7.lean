/- The way of a continued fraction between two roots, and that it ends at the simplest fraction. Conditions: each lemma's own.
   The reference's way between two roots. Conditions: each lemma's own.
   The walk of radical.Between. Conditions: none.
   The walk of the reference's floor of roots. Conditions: none.
   The walk of the reference's Between. Conditions: none.
   The simplest fraction between two short roots: both ways to it. Conditions: each lemma's own.
   The simplest fraction between two roots, by the program and by the reference. Conditions: none.
   Points of any numbers in the walks. Conditions: each lemma's own.
   Lists of fractions of any form, and of roots, in the walks. Conditions: each lemma's own.
   The walks of smallness. Conditions: none.
   The examples of the chapter on signs of sums with roots, and sums, in the walks. Conditions: each lemma's own.
   The walk of the examples of the chapter on signs of sums with roots. Conditions: none.
   The arguments of a row, opened: what they stand for. Conditions: none (lemmas).
   Arguments that are slices, opened. Conditions: none (lemmas).
   The arguments of the rows, opened. Conditions: none.
   The order of points, in plain terms. Conditions: each lemma's own.
   The laws of signs of sums with roots, in plain terms. Conditions: each lemma's own.
   The pure layer, sixteenth part: calls that read and write some of the caller's blocks. Conditions: none (lemmas). -/
import Derived.WalkKit
import Derived.ProofKit
import Derived.OpenShut
import Derived.ChangeOld
import Derived.Below
import Derived.Carry
import Derived.ChangeSlices
import Derived.Test.YtdojhoegildiaaaGreatRows
import Derived.Test.YtdojhoegildiaaaGreatQ6
set_option linter.unusedVariables false
set_option linter.unusedSimpArgs false
set_option linter.unusedSimpArgs false
set_option linter.unusedVariables false
namespace Go.PL
open Go.RL
abbrev nm (a b c : Rat) (n : Int) : Rat := (a - (n : Rat)) * (a - (n : Rat)) - b * b * c
abbrev ivA (a b c : Rat) (n : Int) : Rat := (a - (n : Rat)) * (1 / nm a b c n)
abbrev ivB (a b c : Rat) (n : Int) : Rat := -b * (1 / nm a b c n)
abbrev ivC (a b c : Rat) (n : Int) : Rat := rC (ivB a b c n) c
structure Bt0 (a b c a' b' c' : Rat) (n : Int) : Prop where
  sa : SzR a 330
  sb : SzR b 330
  sc : SzR c 330
  sa' : SzR a' 330
  sb' : SzR b' 330
  sc' : SzR c' 330
  hc : Rdc b c
  hc' : Rdc b' c'
  z : b = 0 → c = 0
  z' : b' = 0 → c' = 0
  hn : flR a b c = n
  sn : SzI n 700
  h0 : 0 ≤ two (a - 0) b c
inductive Bt : Rat → Rat → Rat → Rat → Rat → Rat → Rat → Prop where
  | next {a b c a' b' c' : Rat} {n : Int} (e : Bt0 a b c a' b' c' n) (h1 : 0 < two (a' - ((n : Rat) + 1)) b' c') : Bt a b c a' b' c' ((n : Rat) + 1)
  | last {a b c a' b' c' : Rat} {n m : Int} (e : Bt0 a b c a' b' c' n) (h1 : ¬ 0 < two (a' - ((n : Rat) + 1)) b' c') (h2 : two (a - (n : Rat)) b c = 0)
      (hs : rsS (a' - (n : Rat)) b' c' ≠ 0) (hN : nm a' b' c' n ≠ 0) (hm : flR (ivA a' b' c' n) (ivB a' b' c' n) (ivC a' b' c' n) = m) (sA : SzR (ivA a' b' c' n) 330) (sB : SzR (ivB a' b' c' n) 330) (sC : SzR (ivC a' b' c' n) 330)
      (hr : Rdc (ivB a' b' c' n) (ivC a' b' c' n)) (sm : SzI m 1000) (hy : (m : Rat) + 1 ≠ 0) : Bt a b c a' b' c' ((n : Rat) + 1 / ((m : Rat) + 1))
  | step {a b c a' b' c' : Rat} {n : Int} {y : Rat} (e : Bt0 a b c a' b' c' n) (h1 : ¬ 0 < two (a' - ((n : Rat) + 1)) b' c') (h2 : ¬ two (a - (n : Rat)) b c = 0)
      (hs : rsS (a' - (n : Rat)) b' c' ≠ 0) (hN : nm a' b' c' n ≠ 0) (hs' : rsS (a - (n : Rat)) b c ≠ 0) (hN' : nm a b c n ≠ 0) (sA : SzR (ivA a' b' c' n) 330) (sB : SzR (ivB a' b' c' n) 330) (sC : SzR (ivC a' b' c' n) 330)
      (sA' : SzR (ivA a b c n) 330) (sB' : SzR (ivB a b c n) 330) (sC' : SzR (ivC a b c n) 330) (sy : SzR y 1000) (hy : y ≠ 0)
      (r : Bt (ivA a' b' c' n) (ivB a' b' c' n) (ivC a' b' c' n) (ivA a b c n) (ivB a b c n) (ivC a b c n) y) : Bt a b c a' b' c' ((n : Rat) + 1 / y)
theorem Rdc.inv {b c : Rat} (h : Rdc b c) (i : Rat) : Rdc (-b * i) (rC (-b * i) c) := by
  refine ⟨rC_nn h.1, ?_⟩
  by_cases q : -b * i = 0
  · exact .inl q
  · rw [rC_n q]
    refine .inr (h.2.resolve_left fun e => q ?_)
    rw [e]; grind
theorem rC_sz {b c : Rat} {k : Nat} (h : SzR c k) (hk : 0 < k) : SzR (rC b c) k := by
  by_cases q : b = 0
  · rw [rC_z q]; exact (inferInstance : SzR (0 : Rat) 1).mono (by omega)
  · rw [rC_n q]; exact h
theorem inv_mul {a b c : Rat} {n : Int} (hc : 0 ≤ c) (hN : nm a b c n ≠ 0) : null (v2 (a - (n : Rat)) b c * v2 (ivA a b c n) (ivB a b c n) (ivC a b c n) - Re.of 1) := by
  rw [v2_rC]
  have hi : 1 / nm a b c n * nm a b c n = 1 := Rat.div_mul_cancel hN
  have e : v2 (a - (n : Rat)) b c * v2 (ivA a b c n) (ivB a b c n) c - Re.of 1 = Re.of (-(b * b * (1 / nm a b c n))) * (rt c * rt c - Re.of c) := Re.ext fun k => by
    have hi' : 1 / nm a b c n * ((a - (n : Rat)) * (a - (n : Rat)) - b * b * c) = 1 := hi
    generalize 1 / nm a b c n = i at *
    simp only [v2, Re.add_s, Re.sub_s, Re.mul_s, Re.of_s]
    grind
  rw [e]; exact null_mul' _ (rt_sq hc)
theorem sgn_of1 : sgn (Re.of 1) = 1 := by rw [sgn_of]; rfl
theorem inv_pos {a b c : Rat} {n : Int} (hc : 0 ≤ c) (hN : nm a b c n ≠ 0) (h : sgn (v2 (a - (n : Rat)) b c) = 1) : sgn (v2 (ivA a b c n) (ivB a b c n) (ivC a b c n)) = 1 := by
  have h1 := sgn_eqv (inv_mul hc hN)
  rwa [sgn_mul, h, sgn_of1, Int.one_mul] at h1
theorem inv_sgn {a b c w : Rat} {n : Int} (hc : 0 ≤ c) (hN : nm a b c n ≠ 0) (h : sgn (v2 (a - (n : Rat)) b c) = 1) (hw : 0 < w) :
    sgn (v2 (ivA a b c n - w) (ivB a b c n) (ivC a b c n)) = -sgn (v2 (a - ((n : Rat) + 1 / w)) b c) := by
  have hwi : 1 / w * w = 1 := Rat.div_mul_cancel (by grind)
  have h1 : sgn (v2 (a - (n : Rat)) b c * v2 (ivA a b c n - w) (ivB a b c n) (ivC a b c n)) = sgn (Re.of (-w) * v2 (a - ((n : Rat) + 1 / w)) b c) := by
    refine sgn_eqv ?_
    have e : v2 (a - (n : Rat)) b c * v2 (ivA a b c n - w) (ivB a b c n) (ivC a b c n) - Re.of (-w) * v2 (a - ((n : Rat) + 1 / w)) b c = v2 (a - (n : Rat)) b c * v2 (ivA a b c n) (ivB a b c n) (ivC a b c n) - Re.of 1 := Re.ext fun k => by
      generalize 1 / w = i at *
      simp only [v2, Re.add_s, Re.sub_s, Re.mul_s, Re.of_s]
      grind
    show null _
    rw [e]; exact inv_mul hc hN
  rw [sgn_mul, sgn_mul, h, Int.one_mul, Re.of_neg, sgn_neg, sgn_of, sgnQ_pos hw] at h1
  rw [h1]; omega
theorem v2_le0 {a b c z z' : Rat} (h : 0 ≤ sgn (v2 (a - z) b c)) (h' : sgn (v2 (a - z') b c) = -1) : z < z' := by
  rcases Classical.em (z < z') with q | q
  · exact q
  · have := v2_mono_neg h' (Rat.not_lt.1 q); omega
theorem v2_ge0 {a b c z z' : Rat} (h : sgn (v2 (a - z) b c) = 1) (h' : sgn (v2 (a - z') b c) ≤ 0) : z < z' := by
  rcases Classical.em (z < z') with q | q
  · exact q
  · have := v2_mono_pos h (Rat.not_lt.1 q); omega
theorem v2_one {a b c : Rat} {n : Int} (h : sgn (v2 (a - ((n : Rat) + 1)) b c) ≤ 0) : 0 ≤ sgn (Re.of 1 - v2 (a - (n : Rat)) b c) := by
  have h1 : 0 ≤ sgn (-v2 (a - ((n : Rat) + 1)) b c) := by rw [sgn_neg]; omega
  refine nn_eq (fun k => ?_) h1
  simp only [v2, Re.add_s, Re.sub_s, Re.mul_s, Re.of_s, Re.neg_s]; grind
theorem lt_num {z : Rat} {n : Int} (h0 : 0 ≤ n) (h : (n : Rat) < z) : n.natAbs ≤ z.num.natAbs := by
  have h2 : ¬ z ≤ (n : Rat) := Rat.not_le.2 h
  rw [le_iff_num] at h2
  have h3 : ((n : Int) : Rat).num = n := rfl
  have h4 : (((n : Int) : Rat).den : Int) = 1 := rfl
  rw [h3, h4] at h2
  have hd := z.den_pos
  have h5 : n * 1 ≤ n * (z.den : Int) := Int.mul_le_mul_of_nonneg_left (by omega) h0
  omega
theorem bt_all {K : Int} (hK : SzI K 329) : ∀ (d : Nat) (a b c a' b' c' z : Rat), Rdc b c → Rdc b' c' → (b = 0 → c = 0) → (b' = 0 → c' = 0) → SzR c 330 → SzR c' 330 → Fit K d a b c → Fit K d a' b' c' →
    0 ≤ sgn (v2 a b c) → Btw a b c a' b' c' z → z.den ≤ d → SzI z.num 700 → SzI (z.den : Int) 700 → ∃ x, Bt a b c a' b' c' x ∧ SimpP (Btw a b c a' b' c') x := by
  intro d
  induction d with
  | zero => intro a b c a' b' c' z _ _ _ _ _ _ _ _ _ _ h; have := z.den_pos; omega
  | succ d ih =>
    intro a b c a' b' c' z hr hr' hz hz' sc sc' hf hf' h0 hb hd s1 s2
    obtain ⟨sa, sb⟩ := hf.size hK
    obtain ⟨sa', sb'⟩ := hf'.size hK
    obtain ⟨f1, _⟩ := flR_spec (a := a) (b := b) hr.1
    have f2 := flR_lt (a := a) hr
    obtain ⟨n, hn⟩ : ∃ n, flR a b c = n := ⟨_, rfl⟩
    rw [hn] at f1 f2
    have hnz : ∀ u, Btw a b c a' b' c' u → (n : Rat) < u := fun u hu => v2_le0 f1 hu.1
    have n0 : 0 ≤ n := by
      have h1 : (0 : Rat) < (n : Rat) + 1 := v2_le0 (a := a) (b := b) (c := c) (by rw [show a - 0 = a by grind]; exact h0) f2
      have h2 : ((0 : Int) : Rat) < ((n + 1 : Int) : Rat) := by rw [Rat.intCast_add, ic1]; exact h1
      have : (0 : Int) < n + 1 := by exact_mod_cast h2
      omega
    have sn : SzI n 700 := s1.le_of (lt_num n0 (hnz z hb))
    have e : Bt0 a b c a' b' c' n := ⟨sa, sb, sc, sa', sb', sc', hr, hr', hz, hz', hn, sn, by rw [two_eq hr.1, show a - 0 = a by grind]; exact h0⟩
    by_cases h1 : 0 < two (a' - ((n : Rat) + 1)) b' c'
    · refine ⟨_, .next e h1, ?_⟩
      rw [two_eq hr'.1] at h1
      have hg : Btw a b c a' b' c' ((n + 1 : Int) : Rat) := by
        rw [Rat.intCast_add, ic1]
        exact ⟨f2, by have := sgn_le_one (v2 (a' - ((n : Rat) + 1)) b' c'); omega⟩
      have := SimpP.next hg n0 hnz
      rwa [Rat.intCast_add, ic1] at this
    have h1' : sgn (v2 (a' - ((n : Rat) + 1)) b' c') ≤ 0 := by rw [two_eq hr'.1] at h1; omega
    have hz1 : ∀ u, Btw a b c a' b' c' u → u < (n : Rat) + 1 := fun u hu => v2_ge0 hu.2 h1'
    have t' : sgn (v2 (a' - (n : Rat)) b' c') = 1 := v2_mono_pos hb.2 (by have := hnz z hb; grind)
    have hs := rsS_ne hr' (by rw [t']; decide)
    have hN : nm a' b' c' n ≠ 0 := norm_ne hr' (by rw [t']; decide)
    have hF' := hf'.step hr'.1 n (by omega) (v2_one h1') rfl hN
    obtain ⟨sA, sB⟩ := hF'.size hK
    have sC : SzR (ivC a' b' c' n) 330 := rC_sz sc' (by omega)
    have hR' : Rdc (ivB a' b' c' n) (ivC a' b' c' n) := hr'.inv _
    have hP' := inv_pos hr'.1 hN t'
    -- the inverse of the greater root is not less than 1
    have hP1 : 0 ≤ sgn (v2 (ivA a' b' c' n - 1) (ivB a' b' c' n) (ivC a' b' c' n)) := by
      rw [inv_sgn hr'.1 hN t' (by decide), show (1 : Rat) / 1 = 1 by grind]; omega
    by_cases h2 : two (a - (n : Rat)) b c = 0
    · have h2' : sgn (v2 (a - (n : Rat)) b c) = 0 := by rwa [two_eq hr.1] at h2
      obtain ⟨g1, _⟩ := flR_spec (a := ivA a' b' c' n) (b := ivB a' b' c' n) hR'.1
      have g2 := flR_lt (a := ivA a' b' c' n) hR'
      have sm : SzI (flR (ivA a' b' c' n) (ivB a' b' c' n) (ivC a' b' c' n)) 1000 := (flR_sz hR').mono (by omega)
      obtain ⟨m, hm⟩ : ∃ m, flR (ivA a' b' c' n) (ivB a' b' c' n) (ivC a' b' c' n) = m := ⟨_, rfl⟩
      rw [hm] at g1 g2 sm
      have m0 : 0 ≤ m := by
        have q1 : (1 : Rat) < (m : Rat) + 1 := v2_le0 hP1 g2
        have q2 : ((1 : Int) : Rat) < ((m + 1 : Int) : Rat) := by rw [Rat.intCast_add, ic1]; exact q1
        have : (1 : Int) < m + 1 := by exact_mod_cast q2
        omega
      have mp : (0 : Rat) < (m : Rat) + 1 := by
        have : ((0 : Int) : Rat) < ((m + 1 : Int) : Rat) := by exact_mod_cast (show 0 < m + 1 by omega)
        rwa [Rat.intCast_add, ic1] at this
      refine ⟨_, .last e h1 h2 hs hN hm sA sB sC hR' sm (by grind), ?_⟩
      have hJ : ∀ w : Rat, 0 < w → (sgn (v2 (ivA a' b' c' n - w) (ivB a' b' c' n) (ivC a' b' c' n)) = -1 ↔ Btw a b c a' b' c' ((n : Rat) + 1 / w)) := by
        intro w hw
        have hwi := div_pos (show (0 : Rat) < 1 by decide) hw
        rw [inv_sgn hr'.1 hN t' hw]
        constructor
        · intro q
          refine ⟨?_, by omega⟩
          have q1 : sgn (-v2 (a - (n : Rat)) b c + Re.of (1 / w)) = 1 := by
            have := (nonneg_add (x := -v2 (a - (n : Rat)) b c) (y := Re.of (1 / w)) (by rw [sgn_neg]; omega) (nn_of.2 (Rat.le_of_lt hwi))).2.1 (.inr (by rw [sgn_of, sgnQ_pos hwi]; decide))
            exact this
          have q2 : v2 (a - ((n : Rat) + 1 / w)) b c = -(-v2 (a - (n : Rat)) b c + Re.of (1 / w)) := Re.ext fun k => by simp only [v2, Re.add_s, Re.mul_s, Re.of_s, Re.neg_s]; grind
          rw [q2, sgn_neg, q1]
        · intro q; have := q.2; omega
      have hy := SimpP.next (I := fun w => 0 < w ∧ sgn (v2 (ivA a' b' c' n - w) (ivB a' b' c' n) (ivC a' b' c' n)) = -1) (n := m) ⟨by rw [Rat.intCast_add, ic1]; exact mp, by rw [Rat.intCast_add, ic1]; exact g2⟩ m0 (fun u hu => v2_le0 g1 hu.2)
      rw [Rat.intCast_add, ic1] at hy
      obtain ⟨r1, r2⟩ := SimpP.den_step (I := Btw a b c a' b' c') (n := n) (fun w hw => ⟨fun q => (hJ w hw).1 q.2, fun q => ⟨hw, (hJ w hw).2 q⟩⟩) hnz mp hy
      exact ⟨r1, fun u hu => ⟨(r2 u hu).2 n0, (r2 u hu).1⟩⟩
    · have t : sgn (v2 (a - (n : Rat)) b c) = 1 := by
        rw [two_eq hr.1] at h2
        have := sgn_le_one (v2 (a - (n : Rat)) b c); omega
      have hs0 := rsS_ne hr (by rw [t]; decide)
      have hN0 : nm a b c n ≠ 0 := norm_ne hr (by rw [t]; decide)
      have hF := hf.step hr.1 n f1 (v2_one (by omega)) rfl hN0
      obtain ⟨sA0, sB0⟩ := hF.size hK
      have sC0 : SzR (ivC a b c n) 330 := rC_sz sc (by omega)
      have hJ : ∀ w : Rat, 0 < w → (Btw (ivA a' b' c' n) (ivB a' b' c' n) (ivC a' b' c' n) (ivA a b c n) (ivB a b c n) (ivC a b c n) w ↔ Btw a b c a' b' c' ((n : Rat) + 1 / w)) := by
        intro w hw
        unfold Btw
        rw [inv_sgn hr'.1 hN t' hw, inv_sgn hr.1 hN0 t hw]
        constructor
        · intro q; exact ⟨by omega, by omega⟩
        · intro q; exact ⟨by omega, by omega⟩
      have hJ0 : ∀ w : Rat, Btw (ivA a' b' c' n) (ivB a' b' c' n) (ivC a' b' c' n) (ivA a b c n) (ivB a b c n) (ivC a b c n) w → 0 < w := fun w hw =>
        v2_le0 (a := ivA a' b' c' n) (b := ivB a' b' c' n) (c := ivC a' b' c' n) (by rw [show ivA a' b' c' n - 0 = ivA a' b' c' n by grind]; omega) hw.1
      obtain ⟨w0, w1, w2, w3⟩ := step_den (hnz z hb) (hz1 z hb)
      have hw := (hJ _ w0).2 (by rw [w1]; exact hb)
      obtain ⟨y, y1, y2⟩ := ih _ _ _ _ _ _ _ hR' (hr.inv _) (fun q => rC_z q) (fun q => rC_z q) sC sC0 hF' hF (nn_1 hP') hw (by omega) (s2.le_of (by omega)) (s2.le_of (by omega))
      have yp := hJ0 y y2.1
      obtain ⟨v1, v2'⟩ := y2.2 _ hw
      have yn := num_pos_iff.2 yp
      have sy : SzR y 1000 := ⟨(s2.le_of (x := y.num) (by omega)).mono (by omega), (s2.le_of (x := (y.den : Int)) (by omega)).mono (by omega)⟩
      refine ⟨_, .step e h1 h2 hs hN hs0 hN0 sA sB sC sA0 sB0 sC0 sy (by grind) y1, ?_⟩
      obtain ⟨r1, r2⟩ := SimpP.den_step (I := Btw a b c a' b' c') (n := n) hJ hnz yp y2
      exact ⟨r1, fun u hu => ⟨(r2 u hu).2 n0, (r2 u hu).1⟩⟩
end Go.PL

set_option linter.unusedSimpArgs false
set_option linter.unusedVariables false
namespace Go.PL
open Go.RL
instance SzI.floor {q : Rat} {k : Nat} [h : SzR q k] : SzI q.floor k := by rw [Rat.floor_def]; exact SzI.div'
theorem ia (x y : Int) : (x : Rat) + (y : Rat) = ((x + y : Int) : Rat) := (Rat.intCast_add x y).symm
theorem i1a (x : Int) : (x : Rat) + 1 = ((x + 1 : Int) : Rat) := by rw [Rat.intCast_add, ic1]
theorem i1s (x : Int) : (x : Rat) - 1 = ((x - 1 : Int) : Rat) := by rw [Rat.intCast_sub, ic1]
theorem fl_le1 {a b c : Rat} {u : Int} (h : Rdc b c) (hu : u ≤ flR a b c) : 0 ≤ two (a - (u : Rat)) b c := by
  obtain ⟨f1, _⟩ := flR_spec (a := a) (b := b) h.1
  rw [two_eq h.1]
  have h1 : (u : Rat) ≤ ((flR a b c : Int) : Rat) := by exact_mod_cast hu
  generalize ((flR a b c : Int) : Rat) = f at *
  refine nn_eq (fun k => ?_) (nn_add f1 (nn_of.2 (show 0 ≤ f - (u : Rat) by grind)))
  simp only [v2, Re.add_s, Re.mul_s, Re.of_s]; grind
theorem fl_lt1 {a b c : Rat} {u : Int} (h : Rdc b c) (hu : flR a b c < u) : two (a - (u : Rat)) b c = -1 := by
  have f2 := flR_lt (a := a) h
  rw [two_eq h.1]
  refine v2_mono_neg f2 ?_
  rw [i1a]; exact_mod_cast (show flR a b c + 1 ≤ u by omega)
theorem two_ltf {a b c : Rat} {u : Int} (h : Rdc b c) : (two (a - (u : Rat)) b c < 0) = (flR a b c < u) := by
  apply propext
  constructor
  · intro q
    rcases Int.lt_or_le (flR a b c) u with k | k
    · exact k
    · have := fl_le1 h k; omega
  · intro q; have := fl_lt1 h q; omega
theorem two_gef {a b c : Rat} {u : Int} (h : Rdc b c) : (0 ≤ two (a - (u : Rat)) b c) = (u ≤ flR a b c) := by
  have := two_ltf (a := a) (u := u) h
  apply propext
  constructor
  · intro q
    rcases Int.lt_or_le (flR a b c) u with k | k
    · rw [← this] at k; omega
    · exact k
  · intro q; exact fl_le1 h q
theorem szi_dn {u f : Int} {k : Nat} (h : SzI u k) (hf : SzI f k) (hu : f < u) : SzI (u - 1) k := by
  by_cases q : 0 ≤ u - 1
  · exact h.le_of (by omega)
  · exact hf.le_of (by omega)
theorem szi_up {u f : Int} {k : Nat} (h : SzI u k) (hf : SzI f k) (hu : u + 1 ≤ f) : SzI (u + 1) k := by
  by_cases q : u + 1 ≤ 0
  · exact h.le_of (by omega)
  · exact hf.le_of (by omega)
theorem floor_nn {q : Rat} (h : 0 ≤ q) : 0 ≤ q.floor := by
  have h1 := lt_fl q
  have h2 : ((0 : Int) : Rat) < ((q.floor + 1 : Int) : Rat) := by rw [Rat.intCast_add, ic1]; exact Std.lt_of_le_of_lt h h1
  have : (0 : Int) < q.floor + 1 := by exact_mod_cast h2
  omega
theorem sq_nnR (b : Rat) : 0 ≤ b * b := by
  by_cases q : 0 ≤ b
  · exact Rat.mul_nonneg q q
  · have := Rat.mul_nonneg (show (0 : Rat) ≤ -b by grind) (show (0 : Rat) ≤ -b by grind); grind
theorem div_mul1 (x y : Rat) : x / y = x * (1 / y) := by rw [Rat.div_def, Rat.div_def, Rat.one_mul]
theorem sub0 (x : Rat) : x - 0 = x := by grind
theorem invC {b c i : Rat} (z : b = 0 → c = 0) (hi : i ≠ 0) : rC (-b * i) c = c := by
  by_cases q : b = 0
  · rw [z q, q]; unfold rC; split <;> rfl
  · refine rC_n fun k => ?_
    rcases Rat.mul_eq_zero.1 k with k | k
    · exact q (by grind)
    · exact hi k
theorem inv_ne {x : Rat} (h : x ≠ 0) : 1 / x ≠ 0 := fun q => by
  have : 1 / x * x = 1 := Rat.div_mul_cancel h
  rw [q] at this; grind
end Go.PL

set_option linter.unusedSimpArgs false
set_option linter.unusedVariables false
set_option maxRecDepth 20000
namespace Go.Proofs.YtdojhoegildiaaaGreat
open Go Go.PL Go.RL
theorem r_between {a b c a' b' c' x : Rat} (h : Bt a b c a' b' c' x) : Ret Tryz.prog 59 [.a (ratC (a) ++ (ratC (b) ++ ratC (c))), .a (ratC (a') ++ (ratC (b') ++ ratC (c')))] (.e (.a (ratC x))) := by
  induction h with
  | next e h1 => haveI := e.sa; haveI := e.sb; haveI := e.sc; haveI := e.sa'; haveI := e.sb'; haveI := e.sc'; haveI := e.sn; exact c_between_1 _ _ _ _ _ _ e.hc.1 e.hc'.1 _ e.hn h1
  | last e h1 h2 hs hN hm sA sB sC hr sm hy => haveI := e.sa; haveI := e.sb; haveI := e.sc; haveI := e.sa'; haveI := e.sb'; haveI := e.sc'; haveI := e.sn; exact c_between_2 _ _ _ _ _ _ e.hc.1 e.hc'.1 _ e.hn h1 h2 hs hN _ hm hy
  | step e h1 h2 hs hN hs' hN' sA sB sC sA' sB' sC' sy hy r ih => haveI := e.sa; haveI := e.sb; haveI := e.sc; haveI := e.sa'; haveI := e.sb'; haveI := e.sc'; haveI := e.sn; exact c_between_3 _ _ _ _ _ _ e.hc.1 e.hc'.1 _ e.hn h1 h2 hs hN hs' hN' _ hy ih
set_option maxHeartbeats 4000000 in
theorem c_Between_1 (a b c a' b' c' : Rat) [SzR a 2] [SzR b 2] [SzR c 2] [SzR a' 2] [SzR b' 2] [SzR c' 2] (hc : 0 ≤ c) (hc' : 0 ≤ c') (h : ¬ 0 ≤ cmpR a b c a' b' c') (h1 : two (a - 0) b c < 0) (h2 : 0 < two (a' - 0) b' c') :
    Ret Tryz.prog 23 [.a (ratC (a) ++ (ratC (b) ++ ratC (c))), .a (ratC (a') ++ (ratC (b') ++ ratC (c')))] (.t [.a (ratC 0), .c (.int .i64 0)]) := by
  refine ret_of_body (md := {}) Tryz.func23 (by kernel_rfl) rfl ?_; simp only [Tryz.f23, go_sem, Nat.reduceAdd, Nat.reduceSub, List.reduceReplicate]; refine pwx_sr 3 [] (by rfl) fun _ K1 => ?_; simp (disch := omega) only [go_sem, ex_i0]; refine K1 _ ?_; clear K1; refine pwp_seq ?_; refine pwx_sr 0 [] (by rfl) fun _ K2 => ?_; refine rgnX_take 3 fun _ K3 => ?_; simp (disch := omega) only [go_sem, ex_i0, h, decide_false]; refine ⟨_, c_radical_Cmp _ _ _ _ _ _ (by omega) (by assumption) (by assumption), ?_⟩; refine K3 _ ?_; simp (disch := omega) only [go_sem, ex_i0, h, decide_false]; refine K2 _ ?_; clear K3 K2; refine pwp_cond (b := false) (by rfl) (fun h => nomatch h) (fun _ => ?_); refine pwp_skip ?_; refine n_then ?_; refine pwx_sr 1 [] (by rfl) fun _ K4 => ?_; refine rgnX_take 1 fun _ K5 => ?_; simp (disch := omega) only [go_sem, ex_i0]; refine ⟨_, c_rational_FromInt64 _ (by omega) (by omega), ?_⟩; refine K5 _ ?_; simp (disch := omega) only [go_sem, ex_i0]; refine K4 _ ?_; clear K5 K4; refine pwp_seq ?_; refine pwp_block ?_; refine pwx_sr 0 [some 14, some 15, some 16, some 17, some 18, some 19, some 20, some 21, some 22, some 23, some 13] (by rfl) fun _ K6 => ?_; refine rgnX_take 3 fun _ K7 => ?_; simp (disch := omega) only [go_sem, ex_i0, h1, h2, decide_true]; refine ⟨_, c_radical_CmpRat _ _ _ _ (by omega) (by assumption), ?_⟩; refine K7 _ ?_; refine rgnX_take 5 fun _ K8 => ?_; simp (disch := omega) only [go_sem, ex_i0, h1, h2, decide_true]
  first | refine ⟨_, c_radical_CmpRat _ _ _ _ (by omega) (by assumption), ?_⟩ | skip
  refine K8 _ ?_; simp (disch := omega) only [go_sem, ex_i0, h1, h2, decide_true]; refine K6 _ ?_; clear K8 K7 K6; refine pwp_cond (b := true) (by rfl) (fun _ => ?_) (fun h => nomatch h); refine pwx_sr 0 [] (by rfl) fun _ K9 => ?_; simp (disch := omega) only [go_sem, ex_i0]; refine K9 _ ?_; clear K9; refine pwp_ret ?_; refine r_block ?_; refine r_then ?_; refine ⟨Or.inr rfl, ?_⟩; simp (disch := omega) only [go_sem, ex_i0]
set_option maxHeartbeats 4000000 in
theorem c_Between_2 (a b c a' b' c' : Rat) [SzR a 2] [SzR b 2] [SzR c 2] [SzR a' 2] [SzR b' 2] [SzR c' 2] (hc : 0 ≤ c) (hc' : 0 ≤ c') (h : ¬ 0 ≤ cmpR a b c a' b' c') (h2 : ¬ 0 < two (a' - 0) b' c') (h3 : two (a' - 0) b' c' ≤ 0) (y : Rat) [SzR y 700] (hy : Ret Tryz.prog 59 [.a (ratC (-a') ++ (ratC (-b') ++ ratC (c'))), .a (ratC (-a) ++ (ratC (-b) ++ ratC (c)))] (.e (.a (ratC y)))) :
    Ret Tryz.prog 23 [.a (ratC (a) ++ (ratC (b) ++ ratC (c))), .a (ratC (a') ++ (ratC (b') ++ ratC (c')))] (.t [.a (ratC (-y)), .c (.int .i64 0)]) := by
  refine ret_of_body (md := {}) Tryz.func23 (by kernel_rfl) rfl ?_; simp only [Tryz.f23, go_sem, Nat.reduceAdd, Nat.reduceSub, List.reduceReplicate]; refine pwx_sr 3 [] (by rfl) fun _ K1 => ?_; simp (disch := omega) only [go_sem, ex_i0]; refine K1 _ ?_; clear K1; refine pwp_seq ?_; refine pwx_sr 0 [] (by rfl) fun _ K2 => ?_; refine rgnX_take 3 fun _ K3 => ?_; simp (disch := omega) only [go_sem, ex_i0, h, decide_false]; refine ⟨_, c_radical_Cmp _ _ _ _ _ _ (by omega) (by assumption) (by assumption), ?_⟩; refine K3 _ ?_; simp (disch := omega) only [go_sem, ex_i0, h, decide_false]; refine K2 _ ?_; clear K3 K2; refine pwp_cond (b := false) (by rfl) (fun h => nomatch h) (fun _ => ?_); refine pwp_skip ?_; refine n_then ?_; refine pwx_sr 1 [] (by rfl) fun _ K4 => ?_; refine rgnX_take 1 fun _ K5 => ?_; simp (disch := omega) only [go_sem, ex_i0]; refine ⟨_, c_rational_FromInt64 _ (by omega) (by omega), ?_⟩; refine K5 _ ?_; simp (disch := omega) only [go_sem, ex_i0]; refine K4 _ ?_; clear K5 K4; refine pwp_seq ?_; refine pwp_block ?_; by_cases h1 : two (a - 0) b c < 0
  · refine pwx_sr 0 [some 14, some 15, some 16, some 17, some 18, some 19, some 20, some 21, some 22, some 23, some 13] (by rfl) fun _ K6 => ?_; refine rgnX_take 3 fun _ K7 => ?_; simp (disch := omega) only [go_sem, ex_i0, h1, h2, decide_false]; refine ⟨_, c_radical_CmpRat _ _ _ _ (by omega) (by assumption), ?_⟩; refine K7 _ ?_; refine rgnX_take 5 fun _ K8 => ?_; simp (disch := omega) only [go_sem, ex_i0, h1, h2, decide_false]
    first | refine ⟨_, c_radical_CmpRat _ _ _ _ (by omega) (by assumption), ?_⟩ | skip
    refine K8 _ ?_; simp (disch := omega) only [go_sem, ex_i0, h1, h2, decide_false]; refine K6 _ ?_; clear K8 K7 K6; refine pwp_cond (b := false) (by rfl) (fun h => nomatch h) (fun _ => ?_); refine pwx_sr 0 [] (by rfl) fun _ K9 => ?_; refine rgnX_take 3 fun _ K10 => ?_; simp (disch := omega) only [go_sem, ex_i0, h3, decide_true]; refine ⟨_, c_radical_CmpRat _ _ _ _ (by omega) (by assumption), ?_⟩; refine K10 _ ?_; simp (disch := omega) only [go_sem, ex_i0, h3, decide_true]; refine K9 _ ?_; clear K10 K9; refine pwp_cond (b := true) (by rfl) (fun _ => ?_) (fun h => nomatch h); refine pwx_sd Tryz.mixed 0 [] (by rfl) [] (by kernel_rfl) (by simp) fun _ K11 => ?_; refine rgnX_take 2 fun _ K12 => ?_; simp (disch := omega) only [go_sem, ex_i0]; refine ⟨_, c_root_Neg _ _ _ (by omega), ?_⟩; refine K12 _ ?_; refine rgnX_take 2 fun _ K13 => ?_; simp (disch := omega) only [go_sem, ex_i0]; refine ⟨_, c_root_Neg _ _ _ (by omega), ?_⟩; refine K13 _ ?_; refine rgnX_take 1 fun _ K14 => ?_; simp (disch := omega) only [go_sem, ex_i0]; refine ⟨_, hy, ?_⟩; refine K14 _ ?_; refine rgnX_take 1 fun _ K15 => ?_; simp (disch := omega) only [go_sem, ex_i0]; refine ⟨_, c_rational_Neg _ (by omega), ?_⟩; refine K15 _ ?_; simp (disch := omega) only [go_sem, ex_i0]; refine K11 _ ?_; clear K15 K14 K13 K12 K11; refine pwp_ret ?_; refine r_block ?_; refine r_then ?_; refine ⟨Or.inr rfl, ?_⟩; simp (disch := omega) only [go_sem, ex_i0]
    all_goals first | rfl | exact ⟨rfl, rfl⟩ | simp
  · refine pwx_sr 0 [some 14, some 15, some 16, some 17, some 18, some 19, some 20, some 21, some 22, some 23, some 13] (by rfl) fun _ K16 => ?_; refine rgnX_take 3 fun _ K17 => ?_; simp (disch := omega) only [go_sem, ex_i0, h1, h2, decide_false]; refine ⟨_, c_radical_CmpRat _ _ _ _ (by omega) (by assumption), ?_⟩; refine K17 _ ?_; refine rgnX_take 5 fun _ K18 => ?_; simp (disch := omega) only [go_sem, ex_i0, h1, h2, decide_false]
    first | refine ⟨_, c_radical_CmpRat _ _ _ _ (by omega) (by assumption), ?_⟩ | skip
    refine K18 _ ?_; simp (disch := omega) only [go_sem, ex_i0, h1, h2, decide_false]; refine K16 _ ?_; clear K18 K17 K16; refine pwp_cond (b := false) (by rfl) (fun h => nomatch h) (fun _ => ?_); refine pwx_sr 0 [] (by rfl) fun _ K19 => ?_; refine rgnX_take 3 fun _ K20 => ?_; simp (disch := omega) only [go_sem, ex_i0, h3, decide_true]; refine ⟨_, c_radical_CmpRat _ _ _ _ (by omega) (by assumption), ?_⟩; refine K20 _ ?_; simp (disch := omega) only [go_sem, ex_i0, h3, decide_true]; refine K19 _ ?_; clear K20 K19; refine pwp_cond (b := true) (by rfl) (fun _ => ?_) (fun h => nomatch h); refine pwx_sd Tryz.mixed 0 [] (by rfl) [] (by kernel_rfl) (by simp) fun _ K21 => ?_; refine rgnX_take 2 fun _ K22 => ?_; simp (disch := omega) only [go_sem, ex_i0]; refine ⟨_, c_root_Neg _ _ _ (by omega), ?_⟩; refine K22 _ ?_; refine rgnX_take 2 fun _ K23 => ?_; simp (disch := omega) only [go_sem, ex_i0]; refine ⟨_, c_root_Neg _ _ _ (by omega), ?_⟩; refine K23 _ ?_; refine rgnX_take 1 fun _ K24 => ?_; simp (disch := omega) only [go_sem, ex_i0]; refine ⟨_, hy, ?_⟩; refine K24 _ ?_; refine rgnX_take 1 fun _ K25 => ?_; simp (disch := omega) only [go_sem, ex_i0]; refine ⟨_, c_rational_Neg _ (by omega), ?_⟩; refine K25 _ ?_; simp (disch := omega) only [go_sem, ex_i0]; refine K21 _ ?_; clear K25 K24 K23 K22 K21; refine pwp_ret ?_; refine r_block ?_; refine r_then ?_; refine ⟨Or.inr rfl, ?_⟩; simp (disch := omega) only [go_sem, ex_i0]
    all_goals first | rfl | exact ⟨rfl, rfl⟩ | simp
set_option maxHeartbeats 4000000 in
theorem c_Between_3 (a b c a' b' c' : Rat) [SzR a 2] [SzR b 2] [SzR c 2] [SzR a' 2] [SzR b' 2] [SzR c' 2] (hc : 0 ≤ c) (hc' : 0 ≤ c') (h : ¬ 0 ≤ cmpR a b c a' b' c') (h1 : ¬ two (a - 0) b c < 0) (h3 : ¬ two (a' - 0) b' c' ≤ 0) (y : Rat) [SzR y 700] (hy : Ret Tryz.prog 59 [.a (ratC (a) ++ (ratC (b) ++ ratC (c))), .a (ratC (a') ++ (ratC (b') ++ ratC (c')))] (.e (.a (ratC y)))) :
    Ret Tryz.prog 23 [.a (ratC (a) ++ (ratC (b) ++ ratC (c))), .a (ratC (a') ++ (ratC (b') ++ ratC (c')))] (.t [.a (ratC y), .c (.int .i64 0)]) := by
  refine ret_of_body (md := {}) Tryz.func23 (by kernel_rfl) rfl ?_; simp only [Tryz.f23, go_sem, Nat.reduceAdd, Nat.reduceSub, List.reduceReplicate]; refine pwx_sr 3 [] (by rfl) fun _ K1 => ?_; simp (disch := omega) only [go_sem, ex_i0]; refine K1 _ ?_; clear K1; refine pwp_seq ?_; refine pwx_sr 0 [] (by rfl) fun _ K2 => ?_; refine rgnX_take 3 fun _ K3 => ?_; simp (disch := omega) only [go_sem, ex_i0, h, decide_false]; refine ⟨_, c_radical_Cmp _ _ _ _ _ _ (by omega) (by assumption) (by assumption), ?_⟩; refine K3 _ ?_; simp (disch := omega) only [go_sem, ex_i0, h, decide_false]; refine K2 _ ?_; clear K3 K2; refine pwp_cond (b := false) (by rfl) (fun h => nomatch h) (fun _ => ?_); refine pwp_skip ?_; refine n_then ?_; refine pwx_sr 1 [] (by rfl) fun _ K4 => ?_; refine rgnX_take 1 fun _ K5 => ?_; simp (disch := omega) only [go_sem, ex_i0]; refine ⟨_, c_rational_FromInt64 _ (by omega) (by omega), ?_⟩; refine K5 _ ?_; simp (disch := omega) only [go_sem, ex_i0]; refine K4 _ ?_; clear K5 K4; refine pwp_seq ?_; refine pwp_block ?_; refine pwx_sr 0 [some 14, some 15, some 16, some 17, some 18, some 19, some 20, some 21, some 22, some 23, some 13] (by rfl) fun _ K6 => ?_; refine rgnX_take 3 fun _ K7 => ?_; simp (disch := omega) only [go_sem, ex_i0, h1, decide_false]; refine ⟨_, c_radical_CmpRat _ _ _ _ (by omega) (by assumption), ?_⟩; refine K7 _ ?_; refine rgnX_take 5 fun _ K8 => ?_; simp (disch := omega) only [go_sem, ex_i0, h1, decide_false]
  first | refine ⟨_, c_radical_CmpRat _ _ _ _ (by omega) (by assumption), ?_⟩ | skip
  refine K8 _ ?_; simp (disch := omega) only [go_sem, ex_i0, h1, decide_false]; refine K6 _ ?_; clear K8 K7 K6; refine pwp_cond (b := false) (by rfl) (fun h => nomatch h) (fun _ => ?_); refine pwx_sr 0 [] (by rfl) fun _ K9 => ?_; refine rgnX_take 3 fun _ K10 => ?_; simp (disch := omega) only [go_sem, ex_i0, h3, decide_false]; refine ⟨_, c_radical_CmpRat _ _ _ _ (by omega) (by assumption), ?_⟩; refine K10 _ ?_; simp (disch := omega) only [go_sem, ex_i0, h3, decide_false]; refine K9 _ ?_; clear K10 K9; refine pwp_cond (b := false) (by rfl) (fun h => nomatch h) (fun _ => ?_); refine pwp_skip ?_; refine n_block ?_; refine n_then ?_; refine pwx_sr 0 [] (by rfl) fun _ K11 => ?_; refine rgnX_take 3 fun _ K12 => ?_; simp (disch := omega) only [go_sem, ex_i0]; refine ⟨_, hy, ?_⟩; refine K12 _ ?_; simp (disch := omega) only [go_sem, ex_i0]; refine K11 _ ?_; clear K12 K11; refine pwp_ret ?_; refine ⟨Or.inr rfl, ?_⟩; simp (disch := omega) only [go_sem, ex_i0]

end Go.Proofs.YtdojhoegildiaaaGreat

set_option linter.unusedSimpArgs false
set_option linter.unusedVariables false
set_option maxRecDepth 20000
namespace Go.Proofs.YtdojhoegildiaaaGreat
open Go Go.PL Go.RL
set_option maxHeartbeats 4000000 in
theorem c_swarfref05_Floor (a b c : Rat) [SzR a 330] [SzR b 330] [SzR c 330] (hr : Rdc b c) :
    Ret Tryz.prog 31 [.a (ratC (a) ++ (ratC (b) ++ ratC (c)))] (.e (.a (ratC ((flR a b c : Int) : Rat)))) := by
  refine ret_of_body (md := {}) Tryz.func31 (by kernel_rfl) rfl ?_; simp only [Tryz.f31, go_sem, Nat.reduceAdd, Nat.reduceSub, List.reduceReplicate]; have hF : SzI (flR a b c) 996 := (flR_sz hr).mono (by omega); have h0 : 0 ≤ (b * b * c).floor := floor_nn (Rat.mul_nonneg (sq_nnR b) hr.1); refine pwx_sr 2 [] (by rfl) fun _ K1 => ?_; simp (disch := omega) only [go_sem, nr_1, ia, i1a, i1s]; refine K1 _ ?_; clear K1; refine pwx_sd Tryz.mixed 1 [] (by rfl) [] (by kernel_rfl) (by simp) fun _ K2 => ?_; refine rgnX_take 5 fun _ K3 => ?_; simp (disch := omega) only [go_sem, nr_1, ia, i1a, i1s]; refine ⟨_, c_swarfref02_Mul _ _ (by omega), ?_⟩; refine K3 _ ?_; refine rgnX_take 3 fun _ K4 => ?_; simp (disch := omega) only [go_sem, nr_1, ia, i1a, i1s]; refine ⟨_, c_swarfref02_Mul _ _ (by omega), ?_⟩; refine K4 _ ?_; refine rgnX_take 1 fun _ K5 => ?_; simp (disch := omega) only [go_sem, nr_1, ia, i1a, i1s]; refine ⟨_, c_swarfref02_Floor _ (by omega), ?_⟩; refine K5 _ ?_; refine rgnX_take 1 fun _ K6 => ?_; simp (disch := omega) only [go_sem, nr_1, ia, i1a, i1s]; refine ⟨_, c_swarfref01_Sqrt _ szi9, ?_⟩; refine K6 _ ?_; simp (disch := omega) only [go_sem, nr_1, ia, i1a, i1s]; refine K2 _ ?_; clear K6 K5 K4 K3 K2; refine pwp_join (false :: true :: true :: true :: false :: false :: false :: false :: false :: false :: false :: false :: false :: false :: false :: false :: false :: false :: false :: false :: false :: false :: false :: false :: false :: false :: false :: false :: false :: false :: false :: false :: false :: false :: false :: false :: false :: false :: false :: false :: false :: false :: false :: false :: false :: false :: false :: false :: false :: false :: false :: []) 3 (fun s => ∃ q : Int, (SzI q 991) ∧ s = { slots := .j :: .e (.c (.ptr 0 0)) :: .e (.c (.ptr 1 0)) :: .e (.c (.ptr 2 0)) :: .j :: .j :: .j :: .j :: .j :: .j :: .j :: .j :: .j :: .j :: .j :: .j :: .j :: .j :: .j :: .j :: .j :: .j :: .j :: .j :: .j :: .j :: .j :: .j :: .j :: .j :: .j :: .j :: .j :: .j :: .j :: .j :: .j :: .j :: .j :: .j :: .j :: .j :: .j :: .j :: .j :: .j :: .j :: .j :: .j :: .j :: .j :: [], st := [.live (ratC a ++ (ratC b ++ ratC c)), .live [.bool false, .nils, .bool false, .nils], .live (intC q)] }) rfl ?_ ?_
  · refine pwx_sr 0 [] (by rfl) fun _ K7 => ?_; refine rgnX_take 3 fun _ K8 => ?_; simp (disch := omega) only [go_sem, nr_1, ia, i1a, i1s]; refine ⟨_, c_swarfref02_Sign _, ?_⟩; refine K8 _ ?_; simp (disch := omega) only [go_sem, nr_1, ia, i1a, i1s]; refine K7 _ ?_; clear K8 K7; refine pwp_cond (b := _) (by rfl) (fun hb0 => ?_) (fun hb0 => ?_)
    · first | replace hb0 := of_decide_eq_true hb0 | skip
      refine pwx_region 0 [] (by rfl) fun _ K9 => ?_; refine rgnX_take 2 fun _ K10 => ?_; simp (disch := omega) only [go_sem, nr_1, ia, i1a, i1s]; refine ⟨_, c_swarfref01_Neg _ szi, ?_⟩; refine K10 _ ?_; simp (disch := omega) only [go_sem, nr_1, ia, i1a, i1s]; refine K9 _ ?_; clear K10 K9; refine n_then ?_; refine ⟨⟨-(sqrtI (b * b * c).floor), ?hf0, ?heq⟩, ?hok⟩
      case heq => first | rfl | simp [St.cut, keep]
      case hf0 => exact (inferInstance : SzI _ _).mono (by omega)
      case hok => refine ⟨rfl, ?_, ?_⟩ <;> first | rfl | (simp [keep, PV.lt, PE.lt, PC.lt, Box.lt, ↓lC_lt]; done) | simp [keep, PV.lt, PE.lt, PC.lt, Box.lt, ↓lC_lt, ↓intC_lt, ↓ratC_lt, ↓u32s_lt]
    · first | replace hb0 := of_decide_eq_false hb0 | skip
      refine pwp_skip ?_; refine n_then ?_; refine ⟨⟨sqrtI (b * b * c).floor, ?hf0, ?heq⟩, ?hok⟩
      case heq => first | rfl | simp [St.cut, keep]
      case hf0 => exact (inferInstance : SzI _ _).mono (by omega)
      case hok => refine ⟨rfl, ?_, ?_⟩ <;> first | rfl | (simp [keep, PV.lt, PE.lt, PC.lt, Box.lt, ↓lC_lt]; done) | simp [keep, PV.lt, PE.lt, PC.lt, Box.lt, ↓lC_lt, ↓intC_lt, ↓ratC_lt, ↓u32s_lt]
  · rintro _ ⟨q, hq, rfl⟩
    refine pwx_sr 1 [] (by rfl) fun _ K11 => ?_; refine rgnX_take 1 fun _ K12 => ?_; simp (disch := omega) only [go_sem, nr_1, ia, i1a, i1s]; refine ⟨_, c_swarfref02_FromInt64 _ (by omega) (by omega), ?_⟩; refine K12 _ ?_; simp (disch := omega) only [go_sem, nr_1, ia, i1a, i1s]; refine K11 _ ?_; clear K12 K11; refine pwx_sd Tryz.mixed 1 [] (by rfl) [] (by kernel_rfl) (by simp) fun _ K13 => ?_; refine rgnX_take 3 fun _ K14 => ?_; simp (disch := omega) only [go_sem, nr_1, ia, i1a, i1s]; refine ⟨_, c_swarfref02_Floor _ (by omega), ?_⟩; refine K14 _ ?_; refine rgnX_take 1 fun _ K15 => ?_; simp (disch := omega) only [go_sem, nr_1, ia, i1a, i1s]; refine ⟨_, c_swarfref05_whole _, ?_⟩; refine K15 _ ?_; refine rgnX_take 2 fun _ K16 => ?_; simp (disch := omega) only [go_sem, nr_1, ia, i1a, i1s]; refine ⟨_, c_swarfref05_whole _, ?_⟩; refine K16 _ ?_; refine rgnX_take 1 fun _ K17 => ?_; simp (disch := omega) only [go_sem, nr_1, ia, i1a, i1s]; refine ⟨_, c_swarfref02_Add _ _ (by omega), ?_⟩; refine K17 _ ?_; simp (disch := omega) only [go_sem, nr_1, ia, i1a, i1s]; refine K13 _ ?_; clear K17 K16 K15 K14 K13; refine pwp_seq ?_; refine pwp_block ?_; refine pwp_loopF (false :: true :: true :: false :: false :: true :: true :: false :: false :: false :: false :: false :: false :: false :: false :: false :: false :: false :: false :: false :: false :: false :: false :: false :: false :: false :: false :: false :: false :: false :: false :: false :: false :: false :: false :: false :: false :: false :: false :: false :: false :: false :: false :: false :: false :: false :: false :: false :: false :: false :: false :: []) 5 (fun M s => ∃ u : Int, (SzI u 996) ∧ (u - flR a b c).toNat = M ∧ s = { slots := .j :: .e (.c (.ptr 0 0)) :: .e (.c (.ptr 1 0)) :: .j :: .j :: .e (.c (.ptr 3 0)) :: .e (.c (.ptr 4 0)) :: .j :: .j :: .j :: .j :: .j :: .j :: .j :: .j :: .j :: .j :: .j :: .j :: .j :: .j :: .j :: .j :: .j :: .j :: .j :: .j :: .j :: .j :: .j :: .j :: .j :: .j :: .j :: .j :: .j :: .j :: .j :: .j :: .j :: .j :: .j :: .j :: .j :: .j :: .j :: .j :: .j :: .j :: .j :: .j :: [], st := [.live (ratC a ++ (ratC b ++ ratC c)), .live [.bool false, .nils, .bool false, .nils], .live (intC q), .live (ratC 1), .live (ratC (u : Rat))] }) (n := (a.floor + q - flR a b c).toNat) rfl ?_ ?_ ?_
    · refine ⟨a.floor + q, ?_, rfl, ?_⟩
      · exact (inferInstance : SzI _ _).mono (by omega)
      · first | rfl | simp [St.cut, keep]
    · refine ⟨rfl, ?_, ?_⟩ <;> first | rfl | (simp [keep, PV.lt, PE.lt, PC.lt, Box.lt, ↓lC_lt]; done) | simp [keep, PV.lt, PE.lt, PC.lt, Box.lt, ↓lC_lt, ↓intC_lt, ↓ratC_lt, ↓u32s_lt]
    · rintro _ _ ⟨u, hu, rfl, rfl⟩
      refine pwp_seq ?_; refine pwx_sr 0 [] (by rfl) fun _ K18 => ?_; refine rgnX_take 3 fun _ K19 => ?_; simp (disch := omega) only [go_sem, nr_1, ia, i1a, i1s]; refine ⟨_, c_swarfref05_CmpRat _ _ _ _ (by omega), ?_⟩; refine K19 _ ?_; simp (disch := omega) only [go_sem, nr_1, ia, i1a, i1s]; refine K18 _ ?_; clear K19 K18; refine pwp_cond (b := _) (by rfl) (fun hb1 => ?_) (fun hb1 => ?_)
      · replace hb1 := of_decide_eq_true hb1; rw [two_ltf hr] at hb1; refine pwp_skip ?_; refine n_then ?_; refine pwp_block ?_; refine pwx_region 0 [] (by rfl) fun _ K20 => ?_; refine rgnX_take 3 fun _ K21 => ?_; simp (disch := omega) only [go_sem, nr_1, ia, i1a, i1s]; refine ⟨_, c_swarfref02_Sub _ _ (by omega), ?_⟩; refine K21 _ ?_; simp (disch := omega) only [go_sem, nr_1, ia, i1a, i1s]; refine K20 _ ?_; clear K21 K20; refine n_block ?_; refine n_then ?_; refine ⟨_, ?hdec, ⟨u - 1, ?hf0, rfl, ?heq⟩, ?hok⟩
        case heq => first | rfl | simp [St.cut, keep]
        case hf0 => exact szi_dn hu hF hb1
        case hdec => omega
        case hok => refine ⟨rfl, ?_, ?_⟩ <;> first | rfl | (simp [keep, PV.lt, PE.lt, PC.lt, Box.lt, ↓lC_lt]; done) | simp [keep, PV.lt, PE.lt, PC.lt, Box.lt, ↓lC_lt, ↓intC_lt, ↓ratC_lt, ↓u32s_lt]
      · replace hb1 := of_decide_eq_false hb1; rw [two_ltf hr] at hb1; refine pwp_exit ?_; refine e_then ?_; refine e_then ?_; refine e_here ?_; refine n_then ?_; refine pwp_seq ?_; refine pwp_block ?_; refine pwp_loopF (false :: true :: true :: false :: false :: true :: true :: false :: false :: false :: false :: false :: false :: false :: false :: false :: false :: false :: false :: false :: false :: false :: false :: false :: false :: false :: false :: false :: false :: false :: false :: false :: false :: false :: false :: false :: false :: false :: false :: false :: false :: false :: false :: false :: false :: false :: false :: false :: false :: false :: false :: []) 5 (fun M s => ∃ w : Int, (SzI w 996) ∧ (w ≤ flR a b c) ∧ (flR a b c - w).toNat = M ∧ s = { slots := .j :: .e (.c (.ptr 0 0)) :: .e (.c (.ptr 1 0)) :: .j :: .j :: .e (.c (.ptr 3 0)) :: .e (.c (.ptr 4 0)) :: .j :: .j :: .j :: .j :: .j :: .j :: .j :: .j :: .j :: .j :: .j :: .j :: .j :: .j :: .j :: .j :: .j :: .j :: .j :: .j :: .j :: .j :: .j :: .j :: .j :: .j :: .j :: .j :: .j :: .j :: .j :: .j :: .j :: .j :: .j :: .j :: .j :: .j :: .j :: .j :: .j :: .j :: .j :: .j :: [], st := [.live (ratC a ++ (ratC b ++ ratC c)), .live [.bool false, .nils, .bool false, .nils], .live (intC q), .live (ratC 1), .live (ratC (w : Rat))] }) (n := (flR a b c - u).toNat) rfl ?_ ?_ ?_
        · refine ⟨u, ?_, ?_, rfl, ?_⟩
          · assumption
          · omega
          · first | rfl | simp [St.cut, keep]
        · refine ⟨rfl, ?_, ?_⟩ <;> first | rfl | (simp [keep, PV.lt, PE.lt, PC.lt, Box.lt, ↓lC_lt]; done) | simp [keep, PV.lt, PE.lt, PC.lt, Box.lt, ↓lC_lt, ↓intC_lt, ↓ratC_lt, ↓u32s_lt]
        · rintro _ _ ⟨w, hw, hwf, rfl, rfl⟩
          refine pwp_seq ?_; refine pwx_sd Tryz.mixed 0 [] (by rfl) [] (by kernel_rfl) (by simp) fun _ K22 => ?_; refine rgnX_take 4 fun _ K23 => ?_; simp (disch := omega) only [go_sem, nr_1, ia, i1a, i1s]; refine ⟨_, c_swarfref02_Add _ _ (by omega), ?_⟩; refine K23 _ ?_; refine rgnX_take 1 fun _ K24 => ?_; simp (disch := omega) only [go_sem, nr_1, ia, i1a, i1s]; refine ⟨_, c_swarfref05_CmpRat _ _ _ _ (by omega), ?_⟩; refine K24 _ ?_; simp (disch := omega) only [go_sem, nr_1, ia, i1a, i1s]; refine K22 _ ?_; clear K24 K23 K22; refine pwp_cond (b := _) (by rfl) (fun hb2 => ?_) (fun hb2 => ?_)
          · replace hb2 := of_decide_eq_true hb2; rw [ge_iff_le, two_gef hr] at hb2; refine pwp_skip ?_; refine n_then ?_; refine pwp_block ?_; refine pwx_region 0 [] (by rfl) fun _ K25 => ?_; refine rgnX_take 3 fun _ K26 => ?_; simp (disch := omega) only [go_sem, nr_1, ia, i1a, i1s]; refine ⟨_, c_swarfref02_Add _ _ (by omega), ?_⟩; refine K26 _ ?_; simp (disch := omega) only [go_sem, nr_1, ia, i1a, i1s]; refine K25 _ ?_; clear K26 K25; refine n_block ?_; refine n_then ?_; refine ⟨_, ?hdec, ⟨w + 1, ?hf0, ?hf1, rfl, ?heq⟩, ?hok⟩
            case heq => first | rfl | simp [St.cut, keep]
            case hf0 => exact szi_up hw hF hb2
            case hf1 => omega
            case hdec => omega
            case hok => refine ⟨rfl, ?_, ?_⟩ <;> first | rfl | (simp [keep, PV.lt, PE.lt, PC.lt, Box.lt, ↓lC_lt]; done) | simp [keep, PV.lt, PE.lt, PC.lt, Box.lt, ↓lC_lt, ↓intC_lt, ↓ratC_lt, ↓u32s_lt]
          · replace hb2 := of_decide_eq_false hb2; rw [ge_iff_le, two_gef hr] at hb2; refine pwp_exit ?_; refine e_then ?_; refine e_then ?_; refine e_here ?_; refine n_then ?_; refine pwx_sr 0 [] (by rfl) fun _ K27 => ?_; simp (disch := omega) only [go_sem, nr_1, ia, i1a, i1s]; refine K27 _ ?_; clear K27; refine pwp_ret ?_; refine ⟨Or.inr rfl, ?_⟩; simp (disch := omega) only [go_sem, nr_1, ia, i1a, i1s]
            have e : w = flR a b c := (by omega); rw [e]

end Go.Proofs.YtdojhoegildiaaaGreat

set_option linter.unusedSimpArgs false
set_option linter.unusedVariables false
set_option maxRecDepth 20000
namespace Go.Proofs.YtdojhoegildiaaaGreat
open Go Go.PL Go.RL
set_option maxHeartbeats 4000000 in
theorem c_swarfref05_invert (a b c : Rat) {k l m : Nat} [SzR a k] [SzR b l] [SzR c m] (hk : k + l + m ≤ 5000) (z : b = 0 → c = 0) (hn : a * a - b * b * c ≠ 0) :
    Ret Tryz.prog 67 [.a (ratC (a) ++ (ratC (b) ++ ratC (c)))] (.e (.a (ratC (a * (1 / ((a) * (a) - (b) * (b) * c))) ++ (ratC (-b * (1 / ((a) * (a) - (b) * (b) * c))) ++ ratC (rC (-b * (1 / ((a) * (a) - (b) * (b) * c))) c))))) := by
  refine ret_of_body (md := {}) Tryz.func67 (by kernel_rfl) rfl ?_; simp only [Tryz.f67, go_sem, Nat.reduceAdd, Nat.reduceSub, List.reduceReplicate]; refine pwx_sr 2 [] (by rfl) fun _ K1 => ?_; simp (disch := omega) only [go_sem]; refine K1 _ ?_; clear K1; refine pwx_sd Tryz.mixed 1 [] (by rfl) [] (by kernel_rfl) (by simp) fun _ K2 => ?_; refine rgnX_take 5 fun _ K3 => ?_; simp (disch := omega) only [go_sem]; refine ⟨_, c_swarfref02_Mul _ _ (by omega), ?_⟩; refine K3 _ ?_; refine rgnX_take 5 fun _ K4 => ?_; simp (disch := omega) only [go_sem]; refine ⟨_, c_swarfref02_Mul _ _ (by omega), ?_⟩; refine K4 _ ?_; refine rgnX_take 3 fun _ K5 => ?_; simp (disch := omega) only [go_sem]; refine ⟨_, c_swarfref02_Mul _ _ (by omega), ?_⟩; refine K5 _ ?_; refine rgnX_take 1 fun _ K6 => ?_; simp (disch := omega) only [go_sem]; refine ⟨_, c_swarfref02_Sub _ _ (by omega), ?_⟩; refine K6 _ ?_; simp (disch := omega) only [go_sem]; refine K2 _ ?_; clear K6 K5 K4 K3 K2; refine pwx_sr 1 [] (by rfl) fun _ K7 => ?_; refine rgnX_take 4 fun _ K8 => ?_; simp (disch := omega) only [go_sem]; refine ⟨_, c_swarfref02_Div _ _ (by omega) hn, ?_⟩; refine K8 _ ?_; simp (disch := omega) only [go_sem]; refine K7 _ ?_; clear K8 K7; refine pwx_sd Tryz.mixed 1 [] (by rfl) [] (by kernel_rfl) (by simp) fun _ K9 => ?_; refine rgnX_take 3 fun _ K10 => ?_; simp (disch := omega) only [go_sem]; refine ⟨_, c_swarfref02_Neg _ (by omega), ?_⟩; refine K10 _ ?_; refine rgnX_take 2 fun _ K11 => ?_; simp (disch := omega) only [go_sem]; refine ⟨_, c_swarfref02_Div _ _ (by omega) hn, ?_⟩; refine K11 _ ?_; simp (disch := omega) only [go_sem]; refine K9 _ ?_; clear K11 K10 K9; refine pwx_sr 0 [] (by rfl) fun _ K12 => ?_; simp (disch := omega) only [go_sem]; refine K12 _ ?_; clear K12; refine pwp_ret ?_; refine ⟨Or.inr rfl, ?_⟩; simp (disch := omega) only [go_sem]
  all_goals rw [div_mul1 a, div_mul1 (-b), invC z (inv_ne hn)]
set_option maxHeartbeats 4000000 in
theorem c_rBetween_z (a b c a' b' c' : Rat) [SzR a 330] [SzR b 330] [SzR c 330] [SzR a' 330] [SzR b' 330] [SzR c' 330] (hc : Rdc b c) (hc' : Rdc b' c') (h1 : two (a - 0) b c < 0) (h2 : 0 < two (a' - 0) b' c') :
    Ret Tryz.prog 28 [.a (ratC (a) ++ (ratC (b) ++ ratC (c))), .a (ratC (a') ++ (ratC (b') ++ ratC (c')))] (.e (.a (ratC 0))) := by
  refine ret_of_body (md := {}) Tryz.func28 (by kernel_rfl) rfl ?_; simp only [Tryz.f28, go_sem, Nat.reduceAdd, Nat.reduceSub, List.reduceReplicate]; refine pwx_sr 3 [] (by rfl) fun _ K1 => ?_; simp (disch := omega) only [go_sem, ex_i0, ex_i1]; refine K1 _ ?_; clear K1; refine pwx_sr 2 [] (by rfl) fun _ K2 => ?_; refine rgnX_take 1 fun _ K3 => ?_; simp (disch := omega) only [go_sem, ex_i0, ex_i1]; refine ⟨_, c_swarfref02_FromInt64 _ (by omega) (by omega), ?_⟩; refine K3 _ ?_; refine rgnX_take 1 fun _ K4 => ?_; simp (disch := omega) only [go_sem, ex_i0, ex_i1]; refine ⟨_, c_swarfref02_FromInt64 _ (by omega) (by omega), ?_⟩; refine K4 _ ?_; simp (disch := omega) only [go_sem, ex_i0, ex_i1]; refine K2 _ ?_; clear K4 K3 K2; refine pwp_seq ?_; refine pwx_sr 0 [some 17, some 18, some 19, some 20, some 21, some 22, some 23, some 24, some 25, some 26] (by rfl) fun _ K5 => ?_; refine rgnX_take 3 fun _ K6 => ?_; simp (disch := omega) only [go_sem, ex_i0, ex_i1, h1, h2, decide_true]; refine ⟨_, c_swarfref05_CmpRat _ _ _ _ (by omega), ?_⟩; refine K6 _ ?_; refine rgnX_take 5 fun _ K7 => ?_; simp (disch := omega) only [go_sem, ex_i0, ex_i1, h1, h2, decide_true]
  first | refine ⟨_, c_swarfref05_CmpRat _ _ _ _ (by omega), ?_⟩ | skip
  refine K7 _ ?_; simp (disch := omega) only [go_sem, ex_i0, ex_i1, h1, h2, decide_true]; refine K5 _ ?_; clear K7 K6 K5; refine pwp_cond (b := true) (by rfl) (fun _ => ?_) (fun h => nomatch h); refine pwx_sr 0 [] (by rfl) fun _ K8 => ?_; simp (disch := omega) only [go_sem, ex_i0, ex_i1]; refine K8 _ ?_; clear K8; refine pwp_ret ?_; refine r_then ?_; refine ⟨Or.inr rfl, ?_⟩; simp (disch := omega) only [go_sem, ex_i0, ex_i1]
  all_goals rfl
set_option maxHeartbeats 4000000 in
theorem c_rBetween_1 (a b c a' b' c' : Rat) [SzR a 330] [SzR b 330] [SzR c 330] [SzR a' 330] [SzR b' 330] [SzR c' 330] (hc : Rdc b c) (hc' : Rdc b' c') (n : Int) (hn : flR a b c = n) [SzI n 700] (h0 : ¬ two (a - 0) b c < 0) (h1 : 0 < two (a' - ((n : Rat) + 1)) b' c') :
    Ret Tryz.prog 28 [.a (ratC (a) ++ (ratC (b) ++ ratC (c))), .a (ratC (a') ++ (ratC (b') ++ ratC (c')))] (.e (.a (ratC ((n : Rat) + 1)))) := by
  refine ret_of_body (md := {}) Tryz.func28 (by kernel_rfl) rfl ?_; simp only [Tryz.f28, go_sem, Nat.reduceAdd, Nat.reduceSub, List.reduceReplicate]
  have k0 : 0 ≤ two (a - 0) b c := by omega
  refine pwx_sr 3 [] (by rfl) fun _ K1 => ?_; simp (disch := omega) only [go_sem, ex_i0, ex_i1, hn]; refine K1 _ ?_; clear K1; refine pwx_sr 2 [] (by rfl) fun _ K2 => ?_; refine rgnX_take 1 fun _ K3 => ?_; simp (disch := omega) only [go_sem, ex_i0, ex_i1, hn]; refine ⟨_, c_swarfref02_FromInt64 _ (by omega) (by omega), ?_⟩; refine K3 _ ?_; refine rgnX_take 1 fun _ K4 => ?_; simp (disch := omega) only [go_sem, ex_i0, ex_i1, hn]; refine ⟨_, c_swarfref02_FromInt64 _ (by omega) (by omega), ?_⟩; refine K4 _ ?_; simp (disch := omega) only [go_sem, ex_i0, ex_i1, hn]; refine K2 _ ?_; clear K4 K3 K2; refine pwp_seq ?_; refine pwx_sr 0 [some 17, some 18, some 19, some 20, some 21, some 22, some 23, some 24, some 25, some 26] (by rfl) fun _ K5 => ?_; refine rgnX_take 3 fun _ K6 => ?_; simp (disch := omega) only [go_sem, ex_i0, ex_i1, hn, h0, k0, decide_false, decide_true]; refine ⟨_, c_swarfref05_CmpRat _ _ _ _ (by omega), ?_⟩; refine K6 _ ?_; refine rgnX_take 5 fun _ K7 => ?_; simp (disch := omega) only [go_sem, ex_i0, ex_i1, hn, h0, k0, decide_false, decide_true]
  first | refine ⟨_, c_swarfref05_CmpRat _ _ _ _ (by omega), ?_⟩ | skip
  refine K7 _ ?_; simp (disch := omega) only [go_sem, ex_i0, ex_i1, hn, h0, k0, decide_false, decide_true]; refine K5 _ ?_; clear K7 K6 K5; refine pwp_cond (b := false) (by rfl) (fun h => nomatch h) (fun _ => ?_); refine pwp_skip ?_; refine n_then ?_; refine pwx_sr 1 [] (by rfl) fun _ K8 => ?_; refine rgnX_take 2 fun _ K9 => ?_; simp (disch := omega) only [go_sem, ex_i0, ex_i1, hn]; refine ⟨_, c_swarfref05_Floor _ _ _ (by assumption), ?_⟩; refine K9 _ ?_; simp (disch := omega) only [go_sem, ex_i0, ex_i1, hn]; refine K8 _ ?_; clear K9 K8; refine pwx_sr 1 [] (by rfl) fun _ K10 => ?_; refine rgnX_take 3 fun _ K11 => ?_; simp (disch := omega) only [go_sem, ex_i0, ex_i1, hn]; refine ⟨_, c_swarfref02_Add _ _ (by omega), ?_⟩; refine K11 _ ?_; simp (disch := omega) only [go_sem, ex_i0, ex_i1, hn]; refine K10 _ ?_; clear K11 K10; refine pwp_seq ?_; refine pwx_sr 0 [] (by rfl) fun _ K12 => ?_; refine rgnX_take 3 fun _ K13 => ?_; simp (disch := omega) only [go_sem, ex_i0, ex_i1, hn, h1, decide_true]; refine ⟨_, c_swarfref05_CmpRat _ _ _ _ (by omega), ?_⟩; refine K13 _ ?_; simp (disch := omega) only [go_sem, ex_i0, ex_i1, hn, h1, decide_true]; refine K12 _ ?_; clear K13 K12; refine pwp_cond (b := true) (by rfl) (fun _ => ?_) (fun h => nomatch h); refine pwp_seq ?_; refine pwx_sr 0 [] (by rfl) fun _ K14 => ?_; refine rgnX_take 3 fun _ K15 => ?_; simp (disch := omega) only [go_sem, ex_i0, ex_i1, hn, k0, ge_iff_le, decide_true]; refine ⟨_, c_swarfref05_CmpRat _ _ _ _ (by omega), ?_⟩; refine K15 _ ?_; simp (disch := omega) only [go_sem, ex_i0, ex_i1, hn, k0, ge_iff_le, decide_true]; refine K14 _ ?_; clear K15 K14; refine pwp_cond (b := true) (by rfl) (fun _ => ?_) (fun h => nomatch h); refine pwx_sr 0 [] (by rfl) fun _ K16 => ?_; simp (disch := omega) only [go_sem, ex_i0, ex_i1, hn]; refine K16 _ ?_; clear K16; refine pwp_ret ?_; refine r_then ?_; refine r_then ?_; refine ⟨Or.inr rfl, ?_⟩; simp (disch := omega) only [go_sem, ex_i0, ex_i1, hn]
  all_goals rfl
set_option maxHeartbeats 4000000 in
theorem c_rBetween_2a (a b c a' b' c' : Rat) [SzR a 330] [SzR b 330] [SzR c 330] [SzR a' 330] [SzR b' 330] [SzR c' 330] (hc : Rdc b c) (hc' : Rdc b' c') (n : Int) (hn : flR a b c = n) [SzI n 700] (h0 : ¬ 0 < two (a' - 0) b' c') (k0 : two (a - 0) b c < 0) (h1 : 0 < two (a' - ((n : Rat) + 1)) b' c') (m : Int) (hm : flR a' b' c' = m) [SzI m 700] (h2 : two (a' - (m : Rat)) b' c' = 0) :
    Ret Tryz.prog 28 [.a (ratC (a) ++ (ratC (b) ++ ratC (c))), .a (ratC (a') ++ (ratC (b') ++ ratC (c')))] (.e (.a (ratC ((m : Rat) - 1)))) := by
  refine ret_of_body (md := {}) Tryz.func28 (by kernel_rfl) rfl ?_; simp only [Tryz.f28, go_sem, Nat.reduceAdd, Nat.reduceSub, List.reduceReplicate]
  have k1 : ¬ 0 ≤ two (a - 0) b c := by omega
  refine pwx_sr 3 [] (by rfl) fun _ K1 => ?_; simp (disch := omega) only [go_sem, ex_i0, ex_i1, hn, hm]; refine K1 _ ?_; clear K1; refine pwx_sr 2 [] (by rfl) fun _ K2 => ?_; refine rgnX_take 1 fun _ K3 => ?_; simp (disch := omega) only [go_sem, ex_i0, ex_i1, hn, hm]; refine ⟨_, c_swarfref02_FromInt64 _ (by omega) (by omega), ?_⟩; refine K3 _ ?_; refine rgnX_take 1 fun _ K4 => ?_; simp (disch := omega) only [go_sem, ex_i0, ex_i1, hn, hm]; refine ⟨_, c_swarfref02_FromInt64 _ (by omega) (by omega), ?_⟩; refine K4 _ ?_; simp (disch := omega) only [go_sem, ex_i0, ex_i1, hn, hm]; refine K2 _ ?_; clear K4 K3 K2; refine pwp_seq ?_; refine pwx_sr 0 [some 17, some 18, some 19, some 20, some 21, some 22, some 23, some 24, some 25, some 26] (by rfl) fun _ K5 => ?_; refine rgnX_take 3 fun _ K6 => ?_; simp (disch := omega) only [go_sem, ex_i0, ex_i1, hn, hm, h0, k0, decide_false, decide_true]; refine ⟨_, c_swarfref05_CmpRat _ _ _ _ (by omega), ?_⟩; refine K6 _ ?_; refine rgnX_take 5 fun _ K7 => ?_; simp (disch := omega) only [go_sem, ex_i0, ex_i1, hn, hm, h0, k0, decide_false, decide_true]
  first | refine ⟨_, c_swarfref05_CmpRat _ _ _ _ (by omega), ?_⟩ | skip
  refine K7 _ ?_; simp (disch := omega) only [go_sem, ex_i0, ex_i1, hn, hm, h0, k0, decide_false, decide_true]; refine K5 _ ?_; clear K7 K6 K5; refine pwp_cond (b := false) (by rfl) (fun h => nomatch h) (fun _ => ?_); refine pwp_skip ?_; refine n_then ?_; refine pwx_sr 1 [] (by rfl) fun _ K8 => ?_; refine rgnX_take 2 fun _ K9 => ?_; simp (disch := omega) only [go_sem, ex_i0, ex_i1, hn, hm]; refine ⟨_, c_swarfref05_Floor _ _ _ (by assumption), ?_⟩; refine K9 _ ?_; simp (disch := omega) only [go_sem, ex_i0, ex_i1, hn, hm]; refine K8 _ ?_; clear K9 K8; refine pwx_sr 1 [] (by rfl) fun _ K10 => ?_; refine rgnX_take 3 fun _ K11 => ?_; simp (disch := omega) only [go_sem, ex_i0, ex_i1, hn, hm]; refine ⟨_, c_swarfref02_Add _ _ (by omega), ?_⟩; refine K11 _ ?_; simp (disch := omega) only [go_sem, ex_i0, ex_i1, hn, hm]; refine K10 _ ?_; clear K11 K10; refine pwp_seq ?_; refine pwx_sr 0 [] (by rfl) fun _ K12 => ?_; refine rgnX_take 3 fun _ K13 => ?_; simp (disch := omega) only [go_sem, ex_i0, ex_i1, hn, hm, h1, decide_true]; refine ⟨_, c_swarfref05_CmpRat _ _ _ _ (by omega), ?_⟩; refine K13 _ ?_; simp (disch := omega) only [go_sem, ex_i0, ex_i1, hn, hm, h1, decide_true]; refine K12 _ ?_; clear K13 K12; refine pwp_cond (b := true) (by rfl) (fun _ => ?_) (fun h => nomatch h); refine pwp_seq ?_; refine pwx_sr 0 [] (by rfl) fun _ K14 => ?_; refine rgnX_take 3 fun _ K15 => ?_; simp (disch := omega) only [go_sem, ex_i0, ex_i1, hn, hm, k1, ge_iff_le, decide_false]; refine ⟨_, c_swarfref05_CmpRat _ _ _ _ (by omega), ?_⟩; refine K15 _ ?_; simp (disch := omega) only [go_sem, ex_i0, ex_i1, hn, hm, k1, ge_iff_le, decide_false]; refine K14 _ ?_; clear K15 K14; refine pwp_cond (b := false) (by rfl) (fun h => nomatch h) (fun _ => ?_); refine pwp_skip ?_; refine n_then ?_; refine pwx_sr 1 [] (by rfl) fun _ K16 => ?_; refine rgnX_take 2 fun _ K17 => ?_; simp (disch := omega) only [go_sem, ex_i0, ex_i1, hn, hm]; refine ⟨_, c_swarfref05_Floor _ _ _ (by assumption), ?_⟩; refine K17 _ ?_; simp (disch := omega) only [go_sem, ex_i0, ex_i1, hn, hm]; refine K16 _ ?_; clear K17 K16; refine pwp_seq ?_; refine pwx_sr 0 [] (by rfl) fun _ K18 => ?_; refine rgnX_take 3 fun _ K19 => ?_; simp (disch := omega) only [go_sem, ex_i0, ex_i1, hn, hm, h2, decide_true, decide_false]; refine ⟨_, c_swarfref05_CmpRat _ _ _ _ (by omega), ?_⟩; refine K19 _ ?_; simp (disch := omega) only [go_sem, ex_i0, ex_i1, hn, hm, h2, decide_true, decide_false]; refine K18 _ ?_; clear K19 K18; refine pwp_cond (b := true) (by rfl) (fun _ => ?_) (fun h => nomatch h); refine pwx_region 0 [] (by rfl) fun _ K20 => ?_; refine rgnX_take 3 fun _ K21 => ?_; simp (disch := omega) only [go_sem, ex_i0, ex_i1, hn, hm]; refine ⟨_, c_swarfref02_Sub _ _ (by omega), ?_⟩; refine K21 _ ?_; simp (disch := omega) only [go_sem, ex_i0, ex_i1, hn, hm]; refine K20 _ ?_; clear K21 K20; refine n_then ?_; refine pwx_sr 0 [] (by rfl) fun _ K22 => ?_; simp (disch := omega) only [go_sem, ex_i0, ex_i1, hn, hm]; refine K22 _ ?_; clear K22; refine pwp_ret ?_; refine r_then ?_; refine ⟨Or.inr rfl, ?_⟩; simp (disch := omega) only [go_sem, ex_i0, ex_i1, hn, hm]
  all_goals rfl
set_option maxHeartbeats 4000000 in
theorem c_rBetween_2b (a b c a' b' c' : Rat) [SzR a 330] [SzR b 330] [SzR c 330] [SzR a' 330] [SzR b' 330] [SzR c' 330] (hc : Rdc b c) (hc' : Rdc b' c') (n : Int) (hn : flR a b c = n) [SzI n 700] (h0 : ¬ 0 < two (a' - 0) b' c') (k0 : two (a - 0) b c < 0) (h1 : 0 < two (a' - ((n : Rat) + 1)) b' c') (m : Int) (hm : flR a' b' c' = m) [SzI m 700] (h2 : ¬ two (a' - (m : Rat)) b' c' = 0) :
    Ret Tryz.prog 28 [.a (ratC (a) ++ (ratC (b) ++ ratC (c))), .a (ratC (a') ++ (ratC (b') ++ ratC (c')))] (.e (.a (ratC (m : Rat)))) := by
  refine ret_of_body (md := {}) Tryz.func28 (by kernel_rfl) rfl ?_; simp only [Tryz.f28, go_sem, Nat.reduceAdd, Nat.reduceSub, List.reduceReplicate]
  have k1 : ¬ 0 ≤ two (a - 0) b c := by omega
  refine pwx_sr 3 [] (by rfl) fun _ K1 => ?_; simp (disch := omega) only [go_sem, ex_i0, ex_i1, hn, hm]; refine K1 _ ?_; clear K1; refine pwx_sr 2 [] (by rfl) fun _ K2 => ?_; refine rgnX_take 1 fun _ K3 => ?_; simp (disch := omega) only [go_sem, ex_i0, ex_i1, hn, hm]; refine ⟨_, c_swarfref02_FromInt64 _ (by omega) (by omega), ?_⟩; refine K3 _ ?_; refine rgnX_take 1 fun _ K4 => ?_; simp (disch := omega) only [go_sem, ex_i0, ex_i1, hn, hm]; refine ⟨_, c_swarfref02_FromInt64 _ (by omega) (by omega), ?_⟩; refine K4 _ ?_; simp (disch := omega) only [go_sem, ex_i0, ex_i1, hn, hm]; refine K2 _ ?_; clear K4 K3 K2; refine pwp_seq ?_; refine pwx_sr 0 [some 17, some 18, some 19, some 20, some 21, some 22, some 23, some 24, some 25, some 26] (by rfl) fun _ K5 => ?_; refine rgnX_take 3 fun _ K6 => ?_; simp (disch := omega) only [go_sem, ex_i0, ex_i1, hn, hm, h0, k0, decide_false, decide_true]; refine ⟨_, c_swarfref05_CmpRat _ _ _ _ (by omega), ?_⟩; refine K6 _ ?_; refine rgnX_take 5 fun _ K7 => ?_; simp (disch := omega) only [go_sem, ex_i0, ex_i1, hn, hm, h0, k0, decide_false, decide_true]
  first | refine ⟨_, c_swarfref05_CmpRat _ _ _ _ (by omega), ?_⟩ | skip
  refine K7 _ ?_; simp (disch := omega) only [go_sem, ex_i0, ex_i1, hn, hm, h0, k0, decide_false, decide_true]; refine K5 _ ?_; clear K7 K6 K5; refine pwp_cond (b := false) (by rfl) (fun h => nomatch h) (fun _ => ?_); refine pwp_skip ?_; refine n_then ?_; refine pwx_sr 1 [] (by rfl) fun _ K8 => ?_; refine rgnX_take 2 fun _ K9 => ?_; simp (disch := omega) only [go_sem, ex_i0, ex_i1, hn, hm]; refine ⟨_, c_swarfref05_Floor _ _ _ (by assumption), ?_⟩; refine K9 _ ?_; simp (disch := omega) only [go_sem, ex_i0, ex_i1, hn, hm]; refine K8 _ ?_; clear K9 K8; refine pwx_sr 1 [] (by rfl) fun _ K10 => ?_; refine rgnX_take 3 fun _ K11 => ?_; simp (disch := omega) only [go_sem, ex_i0, ex_i1, hn, hm]; refine ⟨_, c_swarfref02_Add _ _ (by omega), ?_⟩; refine K11 _ ?_; simp (disch := omega) only [go_sem, ex_i0, ex_i1, hn, hm]; refine K10 _ ?_; clear K11 K10; refine pwp_seq ?_; refine pwx_sr 0 [] (by rfl) fun _ K12 => ?_; refine rgnX_take 3 fun _ K13 => ?_; simp (disch := omega) only [go_sem, ex_i0, ex_i1, hn, hm, h1, decide_true]; refine ⟨_, c_swarfref05_CmpRat _ _ _ _ (by omega), ?_⟩; refine K13 _ ?_; simp (disch := omega) only [go_sem, ex_i0, ex_i1, hn, hm, h1, decide_true]; refine K12 _ ?_; clear K13 K12; refine pwp_cond (b := true) (by rfl) (fun _ => ?_) (fun h => nomatch h); refine pwp_seq ?_; refine pwx_sr 0 [] (by rfl) fun _ K14 => ?_; refine rgnX_take 3 fun _ K15 => ?_; simp (disch := omega) only [go_sem, ex_i0, ex_i1, hn, hm, k1, ge_iff_le, decide_false]; refine ⟨_, c_swarfref05_CmpRat _ _ _ _ (by omega), ?_⟩; refine K15 _ ?_; simp (disch := omega) only [go_sem, ex_i0, ex_i1, hn, hm, k1, ge_iff_le, decide_false]; refine K14 _ ?_; clear K15 K14; refine pwp_cond (b := false) (by rfl) (fun h => nomatch h) (fun _ => ?_); refine pwp_skip ?_; refine n_then ?_; refine pwx_sr 1 [] (by rfl) fun _ K16 => ?_; refine rgnX_take 2 fun _ K17 => ?_; simp (disch := omega) only [go_sem, ex_i0, ex_i1, hn, hm]; refine ⟨_, c_swarfref05_Floor _ _ _ (by assumption), ?_⟩; refine K17 _ ?_; simp (disch := omega) only [go_sem, ex_i0, ex_i1, hn, hm]; refine K16 _ ?_; clear K17 K16; refine pwp_seq ?_; refine pwx_sr 0 [] (by rfl) fun _ K18 => ?_; refine rgnX_take 3 fun _ K19 => ?_; simp (disch := omega) only [go_sem, ex_i0, ex_i1, hn, hm, h2, decide_true, decide_false]; refine ⟨_, c_swarfref05_CmpRat _ _ _ _ (by omega), ?_⟩; refine K19 _ ?_; simp (disch := omega) only [go_sem, ex_i0, ex_i1, hn, hm, h2, decide_true, decide_false]; refine K18 _ ?_; clear K19 K18; refine pwp_cond (b := false) (by rfl) (fun h => nomatch h) (fun _ => ?_); refine pwp_skip ?_; refine n_then ?_; refine pwx_sr 0 [] (by rfl) fun _ K20 => ?_; simp (disch := omega) only [go_sem, ex_i0, ex_i1, hn, hm]; refine K20 _ ?_; clear K20; refine pwp_ret ?_; refine r_then ?_; refine ⟨Or.inr rfl, ?_⟩; simp (disch := omega) only [go_sem, ex_i0, ex_i1, hn, hm]
  all_goals rfl
set_option maxHeartbeats 4000000 in
theorem c_rBetween_3p (a b c a' b' c' : Rat) [SzR a 330] [SzR b 330] [SzR c 330] [SzR a' 330] [SzR b' 330] [SzR c' 330] (hc : Rdc b c) (hc' : Rdc b' c') (n : Int) (hn : flR a b c = n) [SzI n 700] (h0 : ¬ two (a - 0) b c < 0) (z : b = 0 → c = 0) (z' : b' = 0 → c' = 0) (h1 : ¬ 0 < two (a' - ((n : Rat) + 1)) b' c') (h2 : two (a - (n : Rat)) b c = 0) (hN1 : ((a' - (n : Rat)) * (a' - (n : Rat)) - (b') * (b') * c') ≠ 0) (m : Int) (hm : flR ((a' - n) * (1 / ((a' - n) * (a' - n) - (b') * (b') * c'))) (-b' * (1 / ((a' - n) * (a' - n) - (b') * (b') * c'))) (rC (-b' * (1 / ((a' - n) * (a' - n) - (b') * (b') * c'))) c') = m) [SzR ((a' - n) * (1 / ((a' - n) * (a' - n) - (b') * (b') * c'))) 330] [SzR (-b' * (1 / ((a' - n) * (a' - n) - (b') * (b') * c'))) 330] [SzR (rC (-b' * (1 / ((a' - n) * (a' - n) - (b') * (b') * c'))) c') 330] (hr : Rdc (-b' * (1 / ((a' - n) * (a' - n) - (b') * (b') * c'))) (rC (-b' * (1 / ((a' - n) * (a' - n) - (b') * (b') * c'))) c')) [SzI m 1000] (hy : (m : Rat) + 1 ≠ 0) :
    Ret Tryz.prog 28 [.a (ratC (a) ++ (ratC (b) ++ ratC (c))), .a (ratC (a') ++ (ratC (b') ++ ratC (c')))] (.e (.a (ratC ((n : Rat) + 1 / ((m : Rat) + 1))))) := by
  refine ret_of_body (md := {}) Tryz.func28 (by kernel_rfl) rfl ?_; simp only [Tryz.f28, go_sem, Nat.reduceAdd, Nat.reduceSub, List.reduceReplicate]; refine pwx_sr 3 [] (by rfl) fun _ K1 => ?_; simp (disch := omega) only [go_sem, ex_i0, ex_i1, hn, hm]; refine K1 _ ?_; clear K1; refine pwx_sr 2 [] (by rfl) fun _ K2 => ?_; refine rgnX_take 1 fun _ K3 => ?_; simp (disch := omega) only [go_sem, ex_i0, ex_i1, hn, hm]; refine ⟨_, c_swarfref02_FromInt64 _ (by omega) (by omega), ?_⟩; refine K3 _ ?_; refine rgnX_take 1 fun _ K4 => ?_; simp (disch := omega) only [go_sem, ex_i0, ex_i1, hn, hm]; refine ⟨_, c_swarfref02_FromInt64 _ (by omega) (by omega), ?_⟩; refine K4 _ ?_; simp (disch := omega) only [go_sem, ex_i0, ex_i1, hn, hm]; refine K2 _ ?_; clear K4 K3 K2; refine pwp_seq ?_; refine pwx_sr 0 [some 17, some 18, some 19, some 20, some 21, some 22, some 23, some 24, some 25, some 26] (by rfl) fun _ K5 => ?_; refine rgnX_take 3 fun _ K6 => ?_; simp (disch := omega) only [go_sem, ex_i0, ex_i1, hn, hm, h0, decide_false]; refine ⟨_, c_swarfref05_CmpRat _ _ _ _ (by omega), ?_⟩; refine K6 _ ?_; refine rgnX_take 5 fun _ K7 => ?_; simp (disch := omega) only [go_sem, ex_i0, ex_i1, hn, hm, h0, decide_false]
  first | refine ⟨_, c_swarfref05_CmpRat _ _ _ _ (by omega), ?_⟩ | skip
  refine K7 _ ?_; simp (disch := omega) only [go_sem, ex_i0, ex_i1, hn, hm, h0, decide_false]; refine K5 _ ?_; clear K7 K6 K5; refine pwp_cond (b := false) (by rfl) (fun h => nomatch h) (fun _ => ?_); refine pwp_skip ?_; refine n_then ?_; refine pwx_sr 1 [] (by rfl) fun _ K8 => ?_; refine rgnX_take 2 fun _ K9 => ?_; simp (disch := omega) only [go_sem, ex_i0, ex_i1, hn, hm]; refine ⟨_, c_swarfref05_Floor _ _ _ (by assumption), ?_⟩; refine K9 _ ?_; simp (disch := omega) only [go_sem, ex_i0, ex_i1, hn, hm]; refine K8 _ ?_; clear K9 K8; refine pwx_sr 1 [] (by rfl) fun _ K10 => ?_; refine rgnX_take 3 fun _ K11 => ?_; simp (disch := omega) only [go_sem, ex_i0, ex_i1, hn, hm]; refine ⟨_, c_swarfref02_Add _ _ (by omega), ?_⟩; refine K11 _ ?_; simp (disch := omega) only [go_sem, ex_i0, ex_i1, hn, hm]; refine K10 _ ?_; clear K11 K10; refine pwp_seq ?_; refine pwx_sr 0 [] (by rfl) fun _ K12 => ?_; refine rgnX_take 3 fun _ K13 => ?_; simp (disch := omega) only [go_sem, ex_i0, ex_i1, hn, hm, h1, decide_false]; refine ⟨_, c_swarfref05_CmpRat _ _ _ _ (by omega), ?_⟩; refine K13 _ ?_; simp (disch := omega) only [go_sem, ex_i0, ex_i1, hn, hm, h1, decide_false]; refine K12 _ ?_; clear K13 K12; refine pwp_cond (b := false) (by rfl) (fun h => nomatch h) (fun _ => ?_); refine pwp_skip ?_; refine n_then ?_; refine pwx_sd Tryz.mixed 2 [] (by rfl) [] (by kernel_rfl) (by simp) fun _ K14 => ?_; refine rgnX_take 3 fun _ K15 => ?_; simp (disch := omega) only [go_sem, ex_i0, ex_i1, hn, hm]; refine ⟨_, c_swarfref05_move _ _ _ _ (by omega), ?_⟩; refine K15 _ ?_; refine rgnX_take 3 fun _ K16 => ?_; simp (disch := omega) only [go_sem, ex_i0, ex_i1, hn, hm]; refine ⟨_, c_swarfref05_move _ _ _ _ (by omega), ?_⟩; refine K16 _ ?_; simp (disch := omega) only [go_sem, ex_i0, ex_i1, hn, hm]; refine K14 _ ?_; clear K16 K15 K14; refine pwx_sr 1 [] (by rfl) fun _ K17 => ?_; simp (disch := omega) only [go_sem, ex_i0, ex_i1, hn, hm]; refine K17 _ ?_; clear K17; refine pwp_seq ?_; refine pwx_sr 0 [] (by rfl) fun _ K18 => ?_; refine rgnX_take 3 fun _ K19 => ?_; simp (disch := omega) only [go_sem, ex_i0, ex_i1, hn, hm, sub0, h2, decide_true]; refine ⟨_, c_swarfref05_CmpRat _ _ _ _ (by omega), ?_⟩; refine K19 _ ?_; simp (disch := omega) only [go_sem, ex_i0, ex_i1, hn, hm, sub0, h2, decide_true]; refine K18 _ ?_; clear K19 K18; refine pwp_cond (b := true) (by rfl) (fun _ => ?_) (fun h => nomatch h); refine pwx_draw Tryz.mixed 0 [] (by rfl) [] (by kernel_rfl) (by simp) fun _ K20 => ?_; refine rgnX_take 2 fun _ K21 => ?_; simp (disch := omega) only [go_sem, ex_i0, ex_i1, hn, hm]
  first | refine ⟨_, c_swarfref05_invert _ _ _ (by omega) z' hN1, ?_⟩ | refine ⟨_, c_swarfref05_invert _ _ _ (by omega) z hN2, ?_⟩
  refine K21 _ ?_; refine rgnX_take 1 fun _ K22 => ?_; simp (disch := omega) only [go_sem, ex_i0, ex_i1, hn, hm]; refine ⟨_, c_swarfref05_Floor _ _ _ (by assumption), ?_⟩; refine K22 _ ?_; refine rgnX_take 2 fun _ K23 => ?_; simp (disch := omega) only [go_sem, ex_i0, ex_i1, hn, hm]; refine ⟨_, c_swarfref02_Add _ _ (by omega), ?_⟩; refine K23 _ ?_; simp (disch := omega) only [go_sem, ex_i0, ex_i1, hn, hm]; refine K20 _ ?_; clear K23 K22 K21 K20; refine n_then ?_; refine pwx_sr 1 [] (by rfl) fun _ K24 => ?_; refine rgnX_take 3 fun _ K25 => ?_; simp (disch := omega) only [go_sem, ex_i0, ex_i1, hn, hm]; refine ⟨_, c_swarfref02_Div _ _ (by omega) hy, ?_⟩; refine K25 _ ?_; simp (disch := omega) only [go_sem, ex_i0, ex_i1, hn, hm]; refine K24 _ ?_; clear K25 K24; refine pwx_sr 0 [] (by rfl) fun _ K26 => ?_; refine rgnX_take 3 fun _ K27 => ?_; simp (disch := omega) only [go_sem, ex_i0, ex_i1, hn, hm]; refine ⟨_, c_swarfref02_Add _ _ (by omega), ?_⟩; refine K27 _ ?_; simp (disch := omega) only [go_sem, ex_i0, ex_i1, hn, hm]; refine K26 _ ?_; clear K27 K26; refine pwp_ret ?_; refine ⟨Or.inr rfl, ?_⟩; simp (disch := omega) only [go_sem, ex_i0, ex_i1, hn, hm]
  all_goals rfl
set_option maxHeartbeats 4000000 in
theorem c_rBetween_4p (a b c a' b' c' : Rat) [SzR a 330] [SzR b 330] [SzR c 330] [SzR a' 330] [SzR b' 330] [SzR c' 330] (hc : Rdc b c) (hc' : Rdc b' c') (n : Int) (hn : flR a b c = n) [SzI n 700] (h0 : ¬ two (a - 0) b c < 0) (z : b = 0 → c = 0) (z' : b' = 0 → c' = 0) (h1 : ¬ 0 < two (a' - ((n : Rat) + 1)) b' c') (h2 : ¬ two (a - (n : Rat)) b c = 0) (hN1 : ((a' - (n : Rat)) * (a' - (n : Rat)) - (b') * (b') * c') ≠ 0) (hN2 : ((a - (n : Rat)) * (a - (n : Rat)) - (b) * (b) * c) ≠ 0) (y : Rat) [SzR y 1000] (hy : y ≠ 0) (hr : Ret Tryz.prog 28 [.a (ratC ((a' - n) * (1 / ((a' - n) * (a' - n) - (b') * (b') * c'))) ++ (ratC (-b' * (1 / ((a' - n) * (a' - n) - (b') * (b') * c'))) ++ ratC (rC (-b' * (1 / ((a' - n) * (a' - n) - (b') * (b') * c'))) c'))), .a (ratC ((a - n) * (1 / ((a - n) * (a - n) - (b) * (b) * c))) ++ (ratC (-b * (1 / ((a - n) * (a - n) - (b) * (b) * c))) ++ ratC (rC (-b * (1 / ((a - n) * (a - n) - (b) * (b) * c))) c)))] (.e (.a (ratC y)))) :
    Ret Tryz.prog 28 [.a (ratC (a) ++ (ratC (b) ++ ratC (c))), .a (ratC (a') ++ (ratC (b') ++ ratC (c')))] (.e (.a (ratC ((n : Rat) + 1 / y)))) := by
  refine ret_of_body (md := {}) Tryz.func28 (by kernel_rfl) rfl ?_; simp only [Tryz.f28, go_sem, Nat.reduceAdd, Nat.reduceSub, List.reduceReplicate]; refine pwx_sr 3 [] (by rfl) fun _ K1 => ?_; simp (disch := omega) only [go_sem, ex_i0, ex_i1, hn]; refine K1 _ ?_; clear K1; refine pwx_sr 2 [] (by rfl) fun _ K2 => ?_; refine rgnX_take 1 fun _ K3 => ?_; simp (disch := omega) only [go_sem, ex_i0, ex_i1, hn]; refine ⟨_, c_swarfref02_FromInt64 _ (by omega) (by omega), ?_⟩; refine K3 _ ?_; refine rgnX_take 1 fun _ K4 => ?_; simp (disch := omega) only [go_sem, ex_i0, ex_i1, hn]; refine ⟨_, c_swarfref02_FromInt64 _ (by omega) (by omega), ?_⟩; refine K4 _ ?_; simp (disch := omega) only [go_sem, ex_i0, ex_i1, hn]; refine K2 _ ?_; clear K4 K3 K2; refine pwp_seq ?_; refine pwx_sr 0 [some 17, some 18, some 19, some 20, some 21, some 22, some 23, some 24, some 25, some 26] (by rfl) fun _ K5 => ?_; refine rgnX_take 3 fun _ K6 => ?_; simp (disch := omega) only [go_sem, ex_i0, ex_i1, hn, h0, decide_false]; refine ⟨_, c_swarfref05_CmpRat _ _ _ _ (by omega), ?_⟩; refine K6 _ ?_; refine rgnX_take 5 fun _ K7 => ?_; simp (disch := omega) only [go_sem, ex_i0, ex_i1, hn, h0, decide_false]
  first | refine ⟨_, c_swarfref05_CmpRat _ _ _ _ (by omega), ?_⟩ | skip
  refine K7 _ ?_; simp (disch := omega) only [go_sem, ex_i0, ex_i1, hn, h0, decide_false]; refine K5 _ ?_; clear K7 K6 K5; refine pwp_cond (b := false) (by rfl) (fun h => nomatch h) (fun _ => ?_); refine pwp_skip ?_; refine n_then ?_; refine pwx_sr 1 [] (by rfl) fun _ K8 => ?_; refine rgnX_take 2 fun _ K9 => ?_; simp (disch := omega) only [go_sem, ex_i0, ex_i1, hn]; refine ⟨_, c_swarfref05_Floor _ _ _ (by assumption), ?_⟩; refine K9 _ ?_; simp (disch := omega) only [go_sem, ex_i0, ex_i1, hn]; refine K8 _ ?_; clear K9 K8; refine pwx_sr 1 [] (by rfl) fun _ K10 => ?_; refine rgnX_take 3 fun _ K11 => ?_; simp (disch := omega) only [go_sem, ex_i0, ex_i1, hn]; refine ⟨_, c_swarfref02_Add _ _ (by omega), ?_⟩; refine K11 _ ?_; simp (disch := omega) only [go_sem, ex_i0, ex_i1, hn]; refine K10 _ ?_; clear K11 K10; refine pwp_seq ?_; refine pwx_sr 0 [] (by rfl) fun _ K12 => ?_; refine rgnX_take 3 fun _ K13 => ?_; simp (disch := omega) only [go_sem, ex_i0, ex_i1, hn, h1, decide_false]; refine ⟨_, c_swarfref05_CmpRat _ _ _ _ (by omega), ?_⟩; refine K13 _ ?_; simp (disch := omega) only [go_sem, ex_i0, ex_i1, hn, h1, decide_false]; refine K12 _ ?_; clear K13 K12; refine pwp_cond (b := false) (by rfl) (fun h => nomatch h) (fun _ => ?_); refine pwp_skip ?_; refine n_then ?_; refine pwx_sd Tryz.mixed 2 [] (by rfl) [] (by kernel_rfl) (by simp) fun _ K14 => ?_; refine rgnX_take 3 fun _ K15 => ?_; simp (disch := omega) only [go_sem, ex_i0, ex_i1, hn]; refine ⟨_, c_swarfref05_move _ _ _ _ (by omega), ?_⟩; refine K15 _ ?_; refine rgnX_take 3 fun _ K16 => ?_; simp (disch := omega) only [go_sem, ex_i0, ex_i1, hn]; refine ⟨_, c_swarfref05_move _ _ _ _ (by omega), ?_⟩; refine K16 _ ?_; simp (disch := omega) only [go_sem, ex_i0, ex_i1, hn]; refine K14 _ ?_; clear K16 K15 K14; refine pwx_sr 1 [] (by rfl) fun _ K17 => ?_; simp (disch := omega) only [go_sem, ex_i0, ex_i1, hn]; refine K17 _ ?_; clear K17; refine pwp_seq ?_; refine pwx_sr 0 [] (by rfl) fun _ K18 => ?_; refine rgnX_take 3 fun _ K19 => ?_; simp (disch := omega) only [go_sem, ex_i0, ex_i1, hn, sub0, h2, decide_false]; refine ⟨_, c_swarfref05_CmpRat _ _ _ _ (by omega), ?_⟩; refine K19 _ ?_; simp (disch := omega) only [go_sem, ex_i0, ex_i1, hn, sub0, h2, decide_false]; refine K18 _ ?_; clear K19 K18; refine pwp_cond (b := false) (by rfl) (fun h => nomatch h) (fun _ => ?_); refine pwx_draw Tryz.mixed 0 [] (by rfl) [] (by kernel_rfl) (by simp) fun _ K20 => ?_; refine rgnX_take 2 fun _ K21 => ?_; simp (disch := omega) only [go_sem, ex_i0, ex_i1, hn]
  first | refine ⟨_, c_swarfref05_invert _ _ _ (by omega) z' hN1, ?_⟩ | refine ⟨_, c_swarfref05_invert _ _ _ (by omega) z hN2, ?_⟩
  refine K21 _ ?_; refine rgnX_take 2 fun _ K22 => ?_; simp (disch := omega) only [go_sem, ex_i0, ex_i1, hn]
  first | refine ⟨_, c_swarfref05_invert _ _ _ (by omega) z' hN1, ?_⟩ | refine ⟨_, c_swarfref05_invert _ _ _ (by omega) z hN2, ?_⟩
  refine K22 _ ?_; refine rgnX_take 1 fun _ K23 => ?_; simp (disch := omega) only [go_sem, ex_i0, ex_i1, hn]; refine ⟨_, hr, ?_⟩; refine K23 _ ?_; simp (disch := omega) only [go_sem, ex_i0, ex_i1, hn]; refine K20 _ ?_; clear K23 K22 K21 K20; refine n_then ?_; refine pwx_sr 1 [] (by rfl) fun _ K24 => ?_; refine rgnX_take 3 fun _ K25 => ?_; simp (disch := omega) only [go_sem, ex_i0, ex_i1, hn]; refine ⟨_, c_swarfref02_Div _ _ (by omega) hy, ?_⟩; refine K25 _ ?_; simp (disch := omega) only [go_sem, ex_i0, ex_i1, hn]; refine K24 _ ?_; clear K25 K24; refine pwx_sr 0 [] (by rfl) fun _ K26 => ?_; refine rgnX_take 3 fun _ K27 => ?_; simp (disch := omega) only [go_sem, ex_i0, ex_i1, hn]; refine ⟨_, c_swarfref02_Add _ _ (by omega), ?_⟩; refine K27 _ ?_; simp (disch := omega) only [go_sem, ex_i0, ex_i1, hn]; refine K26 _ ?_; clear K27 K26; refine pwp_ret ?_; refine ⟨Or.inr rfl, ?_⟩; simp (disch := omega) only [go_sem, ex_i0, ex_i1, hn]
  all_goals rfl
set_option maxHeartbeats 4000000 in
theorem c_rBetween_3m (a b c a' b' c' : Rat) [SzR a 330] [SzR b 330] [SzR c 330] [SzR a' 330] [SzR b' 330] [SzR c' 330] (hc : Rdc b c) (hc' : Rdc b' c') (n : Int) (hn : flR a b c = n) [SzI n 700] (h0 : ¬ 0 < two (a' - 0) b' c') (z : b = 0 → c = 0) (z' : b' = 0 → c' = 0) (h1 : ¬ 0 < two (a' - ((n : Rat) + 1)) b' c') (h2 : two (a - (n : Rat)) b c = 0) (hN1 : ((a' - (n : Rat)) * (a' - (n : Rat)) - (b') * (b') * c') ≠ 0) (m : Int) (hm : flR ((a' - n) * (1 / ((a' - n) * (a' - n) - (b') * (b') * c'))) (-b' * (1 / ((a' - n) * (a' - n) - (b') * (b') * c'))) (rC (-b' * (1 / ((a' - n) * (a' - n) - (b') * (b') * c'))) c') = m) [SzR ((a' - n) * (1 / ((a' - n) * (a' - n) - (b') * (b') * c'))) 330] [SzR (-b' * (1 / ((a' - n) * (a' - n) - (b') * (b') * c'))) 330] [SzR (rC (-b' * (1 / ((a' - n) * (a' - n) - (b') * (b') * c'))) c') 330] (hr : Rdc (-b' * (1 / ((a' - n) * (a' - n) - (b') * (b') * c'))) (rC (-b' * (1 / ((a' - n) * (a' - n) - (b') * (b') * c'))) c')) [SzI m 1000] (hy : (m : Rat) + 1 ≠ 0) :
    Ret Tryz.prog 28 [.a (ratC (a) ++ (ratC (b) ++ ratC (c))), .a (ratC (a') ++ (ratC (b') ++ ratC (c')))] (.e (.a (ratC ((n : Rat) + 1 / ((m : Rat) + 1))))) := by
  refine ret_of_body (md := {}) Tryz.func28 (by kernel_rfl) rfl ?_; simp only [Tryz.f28, go_sem, Nat.reduceAdd, Nat.reduceSub, List.reduceReplicate]; refine pwx_sr 3 [] (by rfl) fun _ K1 => ?_; simp (disch := omega) only [go_sem, ex_i0, ex_i1, hn, hm]; refine K1 _ ?_; clear K1; refine pwx_sr 2 [] (by rfl) fun _ K2 => ?_; refine rgnX_take 1 fun _ K3 => ?_; simp (disch := omega) only [go_sem, ex_i0, ex_i1, hn, hm]; refine ⟨_, c_swarfref02_FromInt64 _ (by omega) (by omega), ?_⟩; refine K3 _ ?_; refine rgnX_take 1 fun _ K4 => ?_; simp (disch := omega) only [go_sem, ex_i0, ex_i1, hn, hm]; refine ⟨_, c_swarfref02_FromInt64 _ (by omega) (by omega), ?_⟩; refine K4 _ ?_; simp (disch := omega) only [go_sem, ex_i0, ex_i1, hn, hm]; refine K2 _ ?_; clear K4 K3 K2; refine pwp_seq ?_; by_cases k0 : two (a - 0) b c < 0
  · refine pwx_sr 0 [some 17, some 18, some 19, some 20, some 21, some 22, some 23, some 24, some 25, some 26] (by rfl) fun _ K5 => ?_; refine rgnX_take 3 fun _ K6 => ?_; simp (disch := omega) only [go_sem, ex_i0, ex_i1, hn, hm, h0, decide_false, k0, decide_true]; refine ⟨_, c_swarfref05_CmpRat _ _ _ _ (by omega), ?_⟩; refine K6 _ ?_; refine rgnX_take 5 fun _ K7 => ?_; simp (disch := omega) only [go_sem, ex_i0, ex_i1, hn, hm, h0, decide_false, k0, decide_true]
    first | refine ⟨_, c_swarfref05_CmpRat _ _ _ _ (by omega), ?_⟩ | skip
    refine K7 _ ?_; simp (disch := omega) only [go_sem, ex_i0, ex_i1, hn, hm, h0, decide_false, k0, decide_true]; refine K5 _ ?_; clear K7 K6 K5; refine pwp_cond (b := false) (by rfl) (fun h => nomatch h) (fun _ => ?_); refine pwp_skip ?_; refine n_then ?_; refine pwx_sr 1 [] (by rfl) fun _ K8 => ?_; refine rgnX_take 2 fun _ K9 => ?_; simp (disch := omega) only [go_sem, ex_i0, ex_i1, hn, hm]; refine ⟨_, c_swarfref05_Floor _ _ _ (by assumption), ?_⟩; refine K9 _ ?_; simp (disch := omega) only [go_sem, ex_i0, ex_i1, hn, hm]; refine K8 _ ?_; clear K9 K8; refine pwx_sr 1 [] (by rfl) fun _ K10 => ?_; refine rgnX_take 3 fun _ K11 => ?_; simp (disch := omega) only [go_sem, ex_i0, ex_i1, hn, hm]; refine ⟨_, c_swarfref02_Add _ _ (by omega), ?_⟩; refine K11 _ ?_; simp (disch := omega) only [go_sem, ex_i0, ex_i1, hn, hm]; refine K10 _ ?_; clear K11 K10; refine pwp_seq ?_; refine pwx_sr 0 [] (by rfl) fun _ K12 => ?_; refine rgnX_take 3 fun _ K13 => ?_; simp (disch := omega) only [go_sem, ex_i0, ex_i1, hn, hm, h1, decide_false]; refine ⟨_, c_swarfref05_CmpRat _ _ _ _ (by omega), ?_⟩; refine K13 _ ?_; simp (disch := omega) only [go_sem, ex_i0, ex_i1, hn, hm, h1, decide_false]; refine K12 _ ?_; clear K13 K12; refine pwp_cond (b := false) (by rfl) (fun h => nomatch h) (fun _ => ?_); refine pwp_skip ?_; refine n_then ?_; refine pwx_sd Tryz.mixed 2 [] (by rfl) [] (by kernel_rfl) (by simp) fun _ K14 => ?_; refine rgnX_take 3 fun _ K15 => ?_; simp (disch := omega) only [go_sem, ex_i0, ex_i1, hn, hm]; refine ⟨_, c_swarfref05_move _ _ _ _ (by omega), ?_⟩; refine K15 _ ?_; refine rgnX_take 3 fun _ K16 => ?_; simp (disch := omega) only [go_sem, ex_i0, ex_i1, hn, hm]; refine ⟨_, c_swarfref05_move _ _ _ _ (by omega), ?_⟩; refine K16 _ ?_; simp (disch := omega) only [go_sem, ex_i0, ex_i1, hn, hm]; refine K14 _ ?_; clear K16 K15 K14; refine pwx_sr 1 [] (by rfl) fun _ K17 => ?_; simp (disch := omega) only [go_sem, ex_i0, ex_i1, hn, hm]; refine K17 _ ?_; clear K17; refine pwp_seq ?_; refine pwx_sr 0 [] (by rfl) fun _ K18 => ?_; refine rgnX_take 3 fun _ K19 => ?_; simp (disch := omega) only [go_sem, ex_i0, ex_i1, hn, hm, sub0, h2, decide_true]; refine ⟨_, c_swarfref05_CmpRat _ _ _ _ (by omega), ?_⟩; refine K19 _ ?_; simp (disch := omega) only [go_sem, ex_i0, ex_i1, hn, hm, sub0, h2, decide_true]; refine K18 _ ?_; clear K19 K18; refine pwp_cond (b := true) (by rfl) (fun _ => ?_) (fun h => nomatch h); refine pwx_draw Tryz.mixed 0 [] (by rfl) [] (by kernel_rfl) (by simp) fun _ K20 => ?_; refine rgnX_take 2 fun _ K21 => ?_; simp (disch := omega) only [go_sem, ex_i0, ex_i1, hn, hm]
    first | refine ⟨_, c_swarfref05_invert _ _ _ (by omega) z' hN1, ?_⟩ | refine ⟨_, c_swarfref05_invert _ _ _ (by omega) z hN2, ?_⟩
    refine K21 _ ?_; refine rgnX_take 1 fun _ K22 => ?_; simp (disch := omega) only [go_sem, ex_i0, ex_i1, hn, hm]; refine ⟨_, c_swarfref05_Floor _ _ _ (by assumption), ?_⟩; refine K22 _ ?_; refine rgnX_take 2 fun _ K23 => ?_; simp (disch := omega) only [go_sem, ex_i0, ex_i1, hn, hm]; refine ⟨_, c_swarfref02_Add _ _ (by omega), ?_⟩; refine K23 _ ?_; simp (disch := omega) only [go_sem, ex_i0, ex_i1, hn, hm]; refine K20 _ ?_; clear K23 K22 K21 K20; refine n_then ?_; refine pwx_sr 1 [] (by rfl) fun _ K24 => ?_; refine rgnX_take 3 fun _ K25 => ?_; simp (disch := omega) only [go_sem, ex_i0, ex_i1, hn, hm]; refine ⟨_, c_swarfref02_Div _ _ (by omega) hy, ?_⟩; refine K25 _ ?_; simp (disch := omega) only [go_sem, ex_i0, ex_i1, hn, hm]; refine K24 _ ?_; clear K25 K24; refine pwx_sr 0 [] (by rfl) fun _ K26 => ?_; refine rgnX_take 3 fun _ K27 => ?_; simp (disch := omega) only [go_sem, ex_i0, ex_i1, hn, hm]; refine ⟨_, c_swarfref02_Add _ _ (by omega), ?_⟩; refine K27 _ ?_; simp (disch := omega) only [go_sem, ex_i0, ex_i1, hn, hm]; refine K26 _ ?_; clear K27 K26; refine pwp_ret ?_; refine ⟨Or.inr rfl, ?_⟩; simp (disch := omega) only [go_sem, ex_i0, ex_i1, hn, hm]
    all_goals rfl
  · refine pwx_sr 0 [some 17, some 18, some 19, some 20, some 21, some 22, some 23, some 24, some 25, some 26] (by rfl) fun _ K28 => ?_; refine rgnX_take 3 fun _ K29 => ?_; simp (disch := omega) only [go_sem, ex_i0, ex_i1, hn, hm, h0, decide_false, k0, decide_true]; refine ⟨_, c_swarfref05_CmpRat _ _ _ _ (by omega), ?_⟩; refine K29 _ ?_; refine rgnX_take 5 fun _ K30 => ?_; simp (disch := omega) only [go_sem, ex_i0, ex_i1, hn, hm, h0, decide_false, k0, decide_true]
    first | refine ⟨_, c_swarfref05_CmpRat _ _ _ _ (by omega), ?_⟩ | skip
    refine K30 _ ?_; simp (disch := omega) only [go_sem, ex_i0, ex_i1, hn, hm, h0, decide_false, k0, decide_true]; refine K28 _ ?_; clear K30 K29 K28; refine pwp_cond (b := false) (by rfl) (fun h => nomatch h) (fun _ => ?_); refine pwp_skip ?_; refine n_then ?_; refine pwx_sr 1 [] (by rfl) fun _ K31 => ?_; refine rgnX_take 2 fun _ K32 => ?_; simp (disch := omega) only [go_sem, ex_i0, ex_i1, hn, hm]; refine ⟨_, c_swarfref05_Floor _ _ _ (by assumption), ?_⟩; refine K32 _ ?_; simp (disch := omega) only [go_sem, ex_i0, ex_i1, hn, hm]; refine K31 _ ?_; clear K32 K31; refine pwx_sr 1 [] (by rfl) fun _ K33 => ?_; refine rgnX_take 3 fun _ K34 => ?_; simp (disch := omega) only [go_sem, ex_i0, ex_i1, hn, hm]; refine ⟨_, c_swarfref02_Add _ _ (by omega), ?_⟩; refine K34 _ ?_; simp (disch := omega) only [go_sem, ex_i0, ex_i1, hn, hm]; refine K33 _ ?_; clear K34 K33; refine pwp_seq ?_; refine pwx_sr 0 [] (by rfl) fun _ K35 => ?_; refine rgnX_take 3 fun _ K36 => ?_; simp (disch := omega) only [go_sem, ex_i0, ex_i1, hn, hm, h1, decide_false]; refine ⟨_, c_swarfref05_CmpRat _ _ _ _ (by omega), ?_⟩; refine K36 _ ?_; simp (disch := omega) only [go_sem, ex_i0, ex_i1, hn, hm, h1, decide_false]; refine K35 _ ?_; clear K36 K35; refine pwp_cond (b := false) (by rfl) (fun h => nomatch h) (fun _ => ?_); refine pwp_skip ?_; refine n_then ?_; refine pwx_sd Tryz.mixed 2 [] (by rfl) [] (by kernel_rfl) (by simp) fun _ K37 => ?_; refine rgnX_take 3 fun _ K38 => ?_; simp (disch := omega) only [go_sem, ex_i0, ex_i1, hn, hm]; refine ⟨_, c_swarfref05_move _ _ _ _ (by omega), ?_⟩; refine K38 _ ?_; refine rgnX_take 3 fun _ K39 => ?_; simp (disch := omega) only [go_sem, ex_i0, ex_i1, hn, hm]; refine ⟨_, c_swarfref05_move _ _ _ _ (by omega), ?_⟩; refine K39 _ ?_; simp (disch := omega) only [go_sem, ex_i0, ex_i1, hn, hm]; refine K37 _ ?_; clear K39 K38 K37; refine pwx_sr 1 [] (by rfl) fun _ K40 => ?_; simp (disch := omega) only [go_sem, ex_i0, ex_i1, hn, hm]; refine K40 _ ?_; clear K40; refine pwp_seq ?_; refine pwx_sr 0 [] (by rfl) fun _ K41 => ?_; refine rgnX_take 3 fun _ K42 => ?_; simp (disch := omega) only [go_sem, ex_i0, ex_i1, hn, hm, sub0, h2, decide_true]; refine ⟨_, c_swarfref05_CmpRat _ _ _ _ (by omega), ?_⟩; refine K42 _ ?_; simp (disch := omega) only [go_sem, ex_i0, ex_i1, hn, hm, sub0, h2, decide_true]; refine K41 _ ?_; clear K42 K41; refine pwp_cond (b := true) (by rfl) (fun _ => ?_) (fun h => nomatch h); refine pwx_draw Tryz.mixed 0 [] (by rfl) [] (by kernel_rfl) (by simp) fun _ K43 => ?_; refine rgnX_take 2 fun _ K44 => ?_; simp (disch := omega) only [go_sem, ex_i0, ex_i1, hn, hm]
    first | refine ⟨_, c_swarfref05_invert _ _ _ (by omega) z' hN1, ?_⟩ | refine ⟨_, c_swarfref05_invert _ _ _ (by omega) z hN2, ?_⟩
    refine K44 _ ?_; refine rgnX_take 1 fun _ K45 => ?_; simp (disch := omega) only [go_sem, ex_i0, ex_i1, hn, hm]; refine ⟨_, c_swarfref05_Floor _ _ _ (by assumption), ?_⟩; refine K45 _ ?_; refine rgnX_take 2 fun _ K46 => ?_; simp (disch := omega) only [go_sem, ex_i0, ex_i1, hn, hm]; refine ⟨_, c_swarfref02_Add _ _ (by omega), ?_⟩; refine K46 _ ?_; simp (disch := omega) only [go_sem, ex_i0, ex_i1, hn, hm]; refine K43 _ ?_; clear K46 K45 K44 K43; refine n_then ?_; refine pwx_sr 1 [] (by rfl) fun _ K47 => ?_; refine rgnX_take 3 fun _ K48 => ?_; simp (disch := omega) only [go_sem, ex_i0, ex_i1, hn, hm]; refine ⟨_, c_swarfref02_Div _ _ (by omega) hy, ?_⟩; refine K48 _ ?_; simp (disch := omega) only [go_sem, ex_i0, ex_i1, hn, hm]; refine K47 _ ?_; clear K48 K47; refine pwx_sr 0 [] (by rfl) fun _ K49 => ?_; refine rgnX_take 3 fun _ K50 => ?_; simp (disch := omega) only [go_sem, ex_i0, ex_i1, hn, hm]; refine ⟨_, c_swarfref02_Add _ _ (by omega), ?_⟩; refine K50 _ ?_; simp (disch := omega) only [go_sem, ex_i0, ex_i1, hn, hm]; refine K49 _ ?_; clear K50 K49; refine pwp_ret ?_; refine ⟨Or.inr rfl, ?_⟩; simp (disch := omega) only [go_sem, ex_i0, ex_i1, hn, hm]
    all_goals rfl
set_option maxHeartbeats 4000000 in
theorem c_rBetween_4m (a b c a' b' c' : Rat) [SzR a 330] [SzR b 330] [SzR c 330] [SzR a' 330] [SzR b' 330] [SzR c' 330] (hc : Rdc b c) (hc' : Rdc b' c') (n : Int) (hn : flR a b c = n) [SzI n 700] (h0 : ¬ 0 < two (a' - 0) b' c') (z : b = 0 → c = 0) (z' : b' = 0 → c' = 0) (h1 : ¬ 0 < two (a' - ((n : Rat) + 1)) b' c') (h2 : ¬ two (a - (n : Rat)) b c = 0) (hN1 : ((a' - (n : Rat)) * (a' - (n : Rat)) - (b') * (b') * c') ≠ 0) (hN2 : ((a - (n : Rat)) * (a - (n : Rat)) - (b) * (b) * c) ≠ 0) (y : Rat) [SzR y 1000] (hy : y ≠ 0) (hr : Ret Tryz.prog 28 [.a (ratC ((a' - n) * (1 / ((a' - n) * (a' - n) - (b') * (b') * c'))) ++ (ratC (-b' * (1 / ((a' - n) * (a' - n) - (b') * (b') * c'))) ++ ratC (rC (-b' * (1 / ((a' - n) * (a' - n) - (b') * (b') * c'))) c'))), .a (ratC ((a - n) * (1 / ((a - n) * (a - n) - (b) * (b) * c))) ++ (ratC (-b * (1 / ((a - n) * (a - n) - (b) * (b) * c))) ++ ratC (rC (-b * (1 / ((a - n) * (a - n) - (b) * (b) * c))) c)))] (.e (.a (ratC y)))) :
    Ret Tryz.prog 28 [.a (ratC (a) ++ (ratC (b) ++ ratC (c))), .a (ratC (a') ++ (ratC (b') ++ ratC (c')))] (.e (.a (ratC ((n : Rat) + 1 / y)))) := by
  refine ret_of_body (md := {}) Tryz.func28 (by kernel_rfl) rfl ?_; simp only [Tryz.f28, go_sem, Nat.reduceAdd, Nat.reduceSub, List.reduceReplicate]; refine pwx_sr 3 [] (by rfl) fun _ K1 => ?_; simp (disch := omega) only [go_sem, ex_i0, ex_i1, hn]; refine K1 _ ?_; clear K1; refine pwx_sr 2 [] (by rfl) fun _ K2 => ?_; refine rgnX_take 1 fun _ K3 => ?_; simp (disch := omega) only [go_sem, ex_i0, ex_i1, hn]; refine ⟨_, c_swarfref02_FromInt64 _ (by omega) (by omega), ?_⟩; refine K3 _ ?_; refine rgnX_take 1 fun _ K4 => ?_; simp (disch := omega) only [go_sem, ex_i0, ex_i1, hn]; refine ⟨_, c_swarfref02_FromInt64 _ (by omega) (by omega), ?_⟩; refine K4 _ ?_; simp (disch := omega) only [go_sem, ex_i0, ex_i1, hn]; refine K2 _ ?_; clear K4 K3 K2; refine pwp_seq ?_; by_cases k0 : two (a - 0) b c < 0
  · refine pwx_sr 0 [some 17, some 18, some 19, some 20, some 21, some 22, some 23, some 24, some 25, some 26] (by rfl) fun _ K5 => ?_; refine rgnX_take 3 fun _ K6 => ?_; simp (disch := omega) only [go_sem, ex_i0, ex_i1, hn, h0, decide_false, k0, decide_true]; refine ⟨_, c_swarfref05_CmpRat _ _ _ _ (by omega), ?_⟩; refine K6 _ ?_; refine rgnX_take 5 fun _ K7 => ?_; simp (disch := omega) only [go_sem, ex_i0, ex_i1, hn, h0, decide_false, k0, decide_true]
    first | refine ⟨_, c_swarfref05_CmpRat _ _ _ _ (by omega), ?_⟩ | skip
    refine K7 _ ?_; simp (disch := omega) only [go_sem, ex_i0, ex_i1, hn, h0, decide_false, k0, decide_true]; refine K5 _ ?_; clear K7 K6 K5; refine pwp_cond (b := false) (by rfl) (fun h => nomatch h) (fun _ => ?_); refine pwp_skip ?_; refine n_then ?_; refine pwx_sr 1 [] (by rfl) fun _ K8 => ?_; refine rgnX_take 2 fun _ K9 => ?_; simp (disch := omega) only [go_sem, ex_i0, ex_i1, hn]; refine ⟨_, c_swarfref05_Floor _ _ _ (by assumption), ?_⟩; refine K9 _ ?_; simp (disch := omega) only [go_sem, ex_i0, ex_i1, hn]; refine K8 _ ?_; clear K9 K8; refine pwx_sr 1 [] (by rfl) fun _ K10 => ?_; refine rgnX_take 3 fun _ K11 => ?_; simp (disch := omega) only [go_sem, ex_i0, ex_i1, hn]; refine ⟨_, c_swarfref02_Add _ _ (by omega), ?_⟩; refine K11 _ ?_; simp (disch := omega) only [go_sem, ex_i0, ex_i1, hn]; refine K10 _ ?_; clear K11 K10; refine pwp_seq ?_; refine pwx_sr 0 [] (by rfl) fun _ K12 => ?_; refine rgnX_take 3 fun _ K13 => ?_; simp (disch := omega) only [go_sem, ex_i0, ex_i1, hn, h1, decide_false]; refine ⟨_, c_swarfref05_CmpRat _ _ _ _ (by omega), ?_⟩; refine K13 _ ?_; simp (disch := omega) only [go_sem, ex_i0, ex_i1, hn, h1, decide_false]; refine K12 _ ?_; clear K13 K12; refine pwp_cond (b := false) (by rfl) (fun h => nomatch h) (fun _ => ?_); refine pwp_skip ?_; refine n_then ?_; refine pwx_sd Tryz.mixed 2 [] (by rfl) [] (by kernel_rfl) (by simp) fun _ K14 => ?_; refine rgnX_take 3 fun _ K15 => ?_; simp (disch := omega) only [go_sem, ex_i0, ex_i1, hn]; refine ⟨_, c_swarfref05_move _ _ _ _ (by omega), ?_⟩; refine K15 _ ?_; refine rgnX_take 3 fun _ K16 => ?_; simp (disch := omega) only [go_sem, ex_i0, ex_i1, hn]; refine ⟨_, c_swarfref05_move _ _ _ _ (by omega), ?_⟩; refine K16 _ ?_; simp (disch := omega) only [go_sem, ex_i0, ex_i1, hn]; refine K14 _ ?_; clear K16 K15 K14; refine pwx_sr 1 [] (by rfl) fun _ K17 => ?_; simp (disch := omega) only [go_sem, ex_i0, ex_i1, hn]; refine K17 _ ?_; clear K17; refine pwp_seq ?_; refine pwx_sr 0 [] (by rfl) fun _ K18 => ?_; refine rgnX_take 3 fun _ K19 => ?_; simp (disch := omega) only [go_sem, ex_i0, ex_i1, hn, sub0, h2, decide_false]; refine ⟨_, c_swarfref05_CmpRat _ _ _ _ (by omega), ?_⟩; refine K19 _ ?_; simp (disch := omega) only [go_sem, ex_i0, ex_i1, hn, sub0, h2, decide_false]; refine K18 _ ?_; clear K19 K18; refine pwp_cond (b := false) (by rfl) (fun h => nomatch h) (fun _ => ?_); refine pwx_draw Tryz.mixed 0 [] (by rfl) [] (by kernel_rfl) (by simp) fun _ K20 => ?_; refine rgnX_take 2 fun _ K21 => ?_; simp (disch := omega) only [go_sem, ex_i0, ex_i1, hn]
    first | refine ⟨_, c_swarfref05_invert _ _ _ (by omega) z' hN1, ?_⟩ | refine ⟨_, c_swarfref05_invert _ _ _ (by omega) z hN2, ?_⟩
    refine K21 _ ?_; refine rgnX_take 2 fun _ K22 => ?_; simp (disch := omega) only [go_sem, ex_i0, ex_i1, hn]
    first | refine ⟨_, c_swarfref05_invert _ _ _ (by omega) z' hN1, ?_⟩ | refine ⟨_, c_swarfref05_invert _ _ _ (by omega) z hN2, ?_⟩
    refine K22 _ ?_; refine rgnX_take 1 fun _ K23 => ?_; simp (disch := omega) only [go_sem, ex_i0, ex_i1, hn]; refine ⟨_, hr, ?_⟩; refine K23 _ ?_; simp (disch := omega) only [go_sem, ex_i0, ex_i1, hn]; refine K20 _ ?_; clear K23 K22 K21 K20; refine n_then ?_; refine pwx_sr 1 [] (by rfl) fun _ K24 => ?_; refine rgnX_take 3 fun _ K25 => ?_; simp (disch := omega) only [go_sem, ex_i0, ex_i1, hn]; refine ⟨_, c_swarfref02_Div _ _ (by omega) hy, ?_⟩; refine K25 _ ?_; simp (disch := omega) only [go_sem, ex_i0, ex_i1, hn]; refine K24 _ ?_; clear K25 K24; refine pwx_sr 0 [] (by rfl) fun _ K26 => ?_; refine rgnX_take 3 fun _ K27 => ?_; simp (disch := omega) only [go_sem, ex_i0, ex_i1, hn]; refine ⟨_, c_swarfref02_Add _ _ (by omega), ?_⟩; refine K27 _ ?_; simp (disch := omega) only [go_sem, ex_i0, ex_i1, hn]; refine K26 _ ?_; clear K27 K26; refine pwp_ret ?_; refine ⟨Or.inr rfl, ?_⟩; simp (disch := omega) only [go_sem, ex_i0, ex_i1, hn]
    all_goals rfl
  · refine pwx_sr 0 [some 17, some 18, some 19, some 20, some 21, some 22, some 23, some 24, some 25, some 26] (by rfl) fun _ K28 => ?_; refine rgnX_take 3 fun _ K29 => ?_; simp (disch := omega) only [go_sem, ex_i0, ex_i1, hn, h0, decide_false, k0, decide_true]; refine ⟨_, c_swarfref05_CmpRat _ _ _ _ (by omega), ?_⟩; refine K29 _ ?_; refine rgnX_take 5 fun _ K30 => ?_; simp (disch := omega) only [go_sem, ex_i0, ex_i1, hn, h0, decide_false, k0, decide_true]
    first | refine ⟨_, c_swarfref05_CmpRat _ _ _ _ (by omega), ?_⟩ | skip
    refine K30 _ ?_; simp (disch := omega) only [go_sem, ex_i0, ex_i1, hn, h0, decide_false, k0, decide_true]; refine K28 _ ?_; clear K30 K29 K28; refine pwp_cond (b := false) (by rfl) (fun h => nomatch h) (fun _ => ?_); refine pwp_skip ?_; refine n_then ?_; refine pwx_sr 1 [] (by rfl) fun _ K31 => ?_; refine rgnX_take 2 fun _ K32 => ?_; simp (disch := omega) only [go_sem, ex_i0, ex_i1, hn]; refine ⟨_, c_swarfref05_Floor _ _ _ (by assumption), ?_⟩; refine K32 _ ?_; simp (disch := omega) only [go_sem, ex_i0, ex_i1, hn]; refine K31 _ ?_; clear K32 K31; refine pwx_sr 1 [] (by rfl) fun _ K33 => ?_; refine rgnX_take 3 fun _ K34 => ?_; simp (disch := omega) only [go_sem, ex_i0, ex_i1, hn]; refine ⟨_, c_swarfref02_Add _ _ (by omega), ?_⟩; refine K34 _ ?_; simp (disch := omega) only [go_sem, ex_i0, ex_i1, hn]; refine K33 _ ?_; clear K34 K33; refine pwp_seq ?_; refine pwx_sr 0 [] (by rfl) fun _ K35 => ?_; refine rgnX_take 3 fun _ K36 => ?_; simp (disch := omega) only [go_sem, ex_i0, ex_i1, hn, h1, decide_false]; refine ⟨_, c_swarfref05_CmpRat _ _ _ _ (by omega), ?_⟩; refine K36 _ ?_; simp (disch := omega) only [go_sem, ex_i0, ex_i1, hn, h1, decide_false]; refine K35 _ ?_; clear K36 K35; refine pwp_cond (b := false) (by rfl) (fun h => nomatch h) (fun _ => ?_); refine pwp_skip ?_; refine n_then ?_; refine pwx_sd Tryz.mixed 2 [] (by rfl) [] (by kernel_rfl) (by simp) fun _ K37 => ?_; refine rgnX_take 3 fun _ K38 => ?_; simp (disch := omega) only [go_sem, ex_i0, ex_i1, hn]; refine ⟨_, c_swarfref05_move _ _ _ _ (by omega), ?_⟩; refine K38 _ ?_; refine rgnX_take 3 fun _ K39 => ?_; simp (disch := omega) only [go_sem, ex_i0, ex_i1, hn]; refine ⟨_, c_swarfref05_move _ _ _ _ (by omega), ?_⟩; refine K39 _ ?_; simp (disch := omega) only [go_sem, ex_i0, ex_i1, hn]; refine K37 _ ?_; clear K39 K38 K37; refine pwx_sr 1 [] (by rfl) fun _ K40 => ?_; simp (disch := omega) only [go_sem, ex_i0, ex_i1, hn]; refine K40 _ ?_; clear K40; refine pwp_seq ?_; refine pwx_sr 0 [] (by rfl) fun _ K41 => ?_; refine rgnX_take 3 fun _ K42 => ?_; simp (disch := omega) only [go_sem, ex_i0, ex_i1, hn, sub0, h2, decide_false]; refine ⟨_, c_swarfref05_CmpRat _ _ _ _ (by omega), ?_⟩; refine K42 _ ?_; simp (disch := omega) only [go_sem, ex_i0, ex_i1, hn, sub0, h2, decide_false]; refine K41 _ ?_; clear K42 K41; refine pwp_cond (b := false) (by rfl) (fun h => nomatch h) (fun _ => ?_); refine pwx_draw Tryz.mixed 0 [] (by rfl) [] (by kernel_rfl) (by simp) fun _ K43 => ?_; refine rgnX_take 2 fun _ K44 => ?_; simp (disch := omega) only [go_sem, ex_i0, ex_i1, hn]
    first | refine ⟨_, c_swarfref05_invert _ _ _ (by omega) z' hN1, ?_⟩ | refine ⟨_, c_swarfref05_invert _ _ _ (by omega) z hN2, ?_⟩
    refine K44 _ ?_; refine rgnX_take 2 fun _ K45 => ?_; simp (disch := omega) only [go_sem, ex_i0, ex_i1, hn]
    first | refine ⟨_, c_swarfref05_invert _ _ _ (by omega) z' hN1, ?_⟩ | refine ⟨_, c_swarfref05_invert _ _ _ (by omega) z hN2, ?_⟩
    refine K45 _ ?_; refine rgnX_take 1 fun _ K46 => ?_; simp (disch := omega) only [go_sem, ex_i0, ex_i1, hn]; refine ⟨_, hr, ?_⟩; refine K46 _ ?_; simp (disch := omega) only [go_sem, ex_i0, ex_i1, hn]; refine K43 _ ?_; clear K46 K45 K44 K43; refine n_then ?_; refine pwx_sr 1 [] (by rfl) fun _ K47 => ?_; refine rgnX_take 3 fun _ K48 => ?_; simp (disch := omega) only [go_sem, ex_i0, ex_i1, hn]; refine ⟨_, c_swarfref02_Div _ _ (by omega) hy, ?_⟩; refine K48 _ ?_; simp (disch := omega) only [go_sem, ex_i0, ex_i1, hn]; refine K47 _ ?_; clear K48 K47; refine pwx_sr 0 [] (by rfl) fun _ K49 => ?_; refine rgnX_take 3 fun _ K50 => ?_; simp (disch := omega) only [go_sem, ex_i0, ex_i1, hn]; refine ⟨_, c_swarfref02_Add _ _ (by omega), ?_⟩; refine K50 _ ?_; simp (disch := omega) only [go_sem, ex_i0, ex_i1, hn]; refine K49 _ ?_; clear K50 K49; refine pwp_ret ?_; refine ⟨Or.inr rfl, ?_⟩; simp (disch := omega) only [go_sem, ex_i0, ex_i1, hn]
    all_goals rfl
theorem r_rBetween {a b c a' b' c' x : Rat} (h : Bt a b c a' b' c' x) : Ret Tryz.prog 28 [.a (ratC (a) ++ (ratC (b) ++ ratC (c))), .a (ratC (a') ++ (ratC (b') ++ ratC (c')))] (.e (.a (ratC x))) := by
  induction h with
  | next e h1 => haveI := e.sa; haveI := e.sb; haveI := e.sc; haveI := e.sa'; haveI := e.sb'; haveI := e.sc'; haveI := e.sn; have h0 := Int.not_lt.2 e.h0; exact c_rBetween_1 _ _ _ _ _ _ e.hc e.hc' _ e.hn h0 h1
  | last e h1 h2 hs hN hm sA sB sC hr sm hy => haveI := e.sa; haveI := e.sb; haveI := e.sc; haveI := e.sa'; haveI := e.sb'; haveI := e.sc'; haveI := e.sn; have h0 := Int.not_lt.2 e.h0; exact c_rBetween_3p _ _ _ _ _ _ e.hc e.hc' _ e.hn h0 e.z e.z' h1 h2 hN _ hm hr hy
  | step e h1 h2 hs hN hs' hN' sA sB sC sA' sB' sC' sy hy r ih => haveI := e.sa; haveI := e.sb; haveI := e.sc; haveI := e.sa'; haveI := e.sb'; haveI := e.sc'; haveI := e.sn; have h0 := Int.not_lt.2 e.h0; exact c_rBetween_4p _ _ _ _ _ _ e.hc e.hc' _ e.hn h0 e.z e.z' h1 h2 hN hN' _ hy ih

end Go.Proofs.YtdojhoegildiaaaGreat

set_option linter.unusedSimpArgs false
set_option linter.unusedVariables false
namespace Go.PL
open Go.RL
theorem Rdc.neg {b c : Rat} (h : Rdc b c) : Rdc (-b) c := ⟨h.1, h.2.imp (fun q => by rw [q]; rfl) id⟩
theorem fits {a b c a' b' c' : Rat} [SzR a 2] [SzR b 2] [SzR c 2] [SzR a' 2] [SzR b' 2] [SzR c' 2] (hc : 0 ≤ c) (hc' : 0 ≤ c') (d : Nat) (hd : SzI (d : Int) 301) :
    ∃ K : Int, SzI K 329 ∧ Fit K d a b c ∧ Fit K d a' b' c' := by
  obtain ⟨K, s, f⟩ := Fit.start a b c hc d 301 hd
  obtain ⟨K', s', f'⟩ := Fit.start a' b' c' hc' d 301 hd
  have h1 := f.nn; have h2 := f'.nn
  exact ⟨K + K', (inferInstance : SzI (K + K') _).mono (by omega), f.monoK (by omega), f'.monoK (by omega)⟩
theorem cmpR_lt1 {a b c a' b' c' : Rat} (hc : 0 ≤ c) (hc' : 0 ≤ c') (h : cmpR a b c a' b' c' < 0) : sgn (v2 a' b' c' - v2 a b c) = 1 := by
  rw [cmpR_eq hc hc'] at h
  have e : v2 a' b' c' - v2 a b c = -(v2 a b c - v2 a' b' c') := Re.ext fun n => by simp only [Re.sub_s, Re.neg_s]; grind
  rw [e, sgn_neg]
  rcases sgn_cases (v2 a b c - v2 a' b' c') with ⟨_, q⟩ | ⟨_, q⟩ | ⟨_, q⟩ <;> omega
theorem bt_pos {a b c a' b' c' : Rat} [SzR a 2] [SzR b 2] [SzR c 2] [SzR a' 2] [SzR b' 2] [SzR c' 2] (h : Rdc b c) (h' : Rdc b' c') (z : b = 0 → c = 0) (z' : b' = 0 → c' = 0) (h0 : 0 ≤ sgn (v2 a b c)) (hs : sgn (v2 a' b' c' - v2 a b c) = 1) :
    ∃ x, Bt a b c a' b' c' x ∧ SimpP (Btw a b c a' b' c') x ∧ SzR x 700 := by
  obtain ⟨u, u1, u2, u3⟩ := dens h h'.1 hs
  obtain ⟨K, k1, k2, k3⟩ := fits (a := a) (b := b) (a' := a') (b' := b') h.1 h'.1 u.den u2
  obtain ⟨x, x1, x2⟩ := bt_all k1 u.den a b c a' b' c' u h h' z z' ((inferInstance : SzR c 2).mono (by omega)) ((inferInstance : SzR c' 2).mono (by omega)) k2 k3 h0 u1 (Nat.le_refl _) (u3.mono (by omega)) (u2.mono (by omega))
  obtain ⟨m1, m2⟩ := x2.2 u u1
  have xp : 0 ≤ x.num := by
    have q : 0 < x := v2_le0 (a := a) (b := b) (c := c) (by rw [sub0]; exact h0) x2.1.1
    exact Int.le_of_lt (num_pos_iff.2 q)
  exact ⟨x, x1, x2, (u3.le_of (by omega)).mono (by omega), (u2.le_of (x := (x.den : Int)) (by omega)).mono (by omega)⟩
theorem Btw.neg {a b c a' b' c' z : Rat} : Btw a b c a' b' c' z ↔ Btw (-a') (-b') c' (-a) (-b) c (-z) := by
  unfold Btw
  have e1 : v2 (-a' - -z) (-b') c' = -v2 (a' - z) b' c' := by rw [← v2_neg]; congr 1; grind
  have e2 : v2 (-a - -z) (-b) c = -v2 (a - z) b c := by rw [← v2_neg]; congr 1; grind
  rw [e1, e2, sgn_neg, sgn_neg]
  constructor <;> (rintro ⟨p, q⟩; exact ⟨by omega, by omega⟩)
inductive Bneg (a b c a' b' c' : Rat) : Rat → Prop where
  | next {n m : Int} (hn : flR a b c = n) (sn : SzI n 700) (h1 : 0 < two (a' - ((n : Rat) + 1)) b' c') (hm : flR a' b' c' = m) (sm : SzI m 700) (h2 : two (a' - (m : Rat)) b' c' = 0) : Bneg a b c a' b' c' ((m : Rat) - 1)
  | nextb {n m : Int} (hn : flR a b c = n) (sn : SzI n 700) (h1 : 0 < two (a' - ((n : Rat) + 1)) b' c') (hm : flR a' b' c' = m) (sm : SzI m 700) (h2 : ¬ two (a' - (m : Rat)) b' c' = 0) : Bneg a b c a' b' c' (m : Rat)
  | last {n m : Int} (hn : flR a b c = n) (sn : SzI n 700) (h1 : ¬ 0 < two (a' - ((n : Rat) + 1)) b' c') (h2 : two (a - (n : Rat)) b c = 0)
      (hN : nm a' b' c' n ≠ 0) (hm : flR (ivA a' b' c' n) (ivB a' b' c' n) (ivC a' b' c' n) = m) (sA : SzR (ivA a' b' c' n) 330) (sB : SzR (ivB a' b' c' n) 330) (sC : SzR (ivC a' b' c' n) 330)
      (hr : Rdc (ivB a' b' c' n) (ivC a' b' c' n)) (sm : SzI m 1000) (hy : (m : Rat) + 1 ≠ 0) : Bneg a b c a' b' c' ((n : Rat) + 1 / ((m : Rat) + 1))
  | step {n : Int} {y : Rat} (hn : flR a b c = n) (sn : SzI n 700) (h1 : ¬ 0 < two (a' - ((n : Rat) + 1)) b' c') (h2 : ¬ two (a - (n : Rat)) b c = 0)
      (hN : nm a' b' c' n ≠ 0) (hN' : nm a b c n ≠ 0) (sy : SzR y 1000) (hy : y ≠ 0)
      (r : Bt (ivA a' b' c' n) (ivB a' b' c' n) (ivC a' b' c' n) (ivA a b c n) (ivB a b c n) (ivC a b c n) y) : Bneg a b c a' b' c' ((n : Rat) + 1 / y)
theorem Simp.frac {I : Rat → Prop} {n : Int} {x : Rat} (hI : ∀ z, I z → (n : Rat) < z ∧ z < (n : Rat) + 1) (hx : I x) (h : ∀ z, I z → x.den ≤ z.den) : Simp I x := by
  refine ⟨hx, h, fun h1 z hz hz1 => ?_⟩
  exfalso
  obtain ⟨q1, q2⟩ := hI x hx
  rw [den1 h1] at q1 q2
  rw [i1a] at q2
  have a1 : n < x.num := by exact_mod_cast q1
  have a2 : x.num < n + 1 := by exact_mod_cast q2
  omega
theorem bneg {a b c a' b' c' : Rat} [SzR a 2] [SzR b 2] [SzR c 2] [SzR a' 2] [SzR b' 2] [SzR c' 2] (h : Rdc b c) (h' : Rdc b' c') (z : b = 0 → c = 0) (z' : b' = 0 → c' = 0) (h0 : sgn (v2 a' b' c') ≤ 0) (hs : sgn (v2 a' b' c' - v2 a b c) = 1) :
    ∃ x, Bneg a b c a' b' c' x ∧ Simp (Btw a b c a' b' c') x := by
  obtain ⟨u, u1, u2, u3⟩ := dens h h'.1 hs
  obtain ⟨K, k1, k2, k3⟩ := fits (a := a) (b := b) (a' := a') (b' := b') h.1 h'.1 u.den u2
  obtain ⟨f1, _⟩ := flR_spec (a := a) (b := b) h.1
  have f2 := flR_lt (a := a) h
  have sn : SzI (flR a b c) 700 := (flR_sz h).mono (by omega)
  obtain ⟨n, hn⟩ : ∃ n, flR a b c = n := ⟨_, rfl⟩
  rw [hn] at f1 f2 sn
  have hnz : ∀ u, Btw a b c a' b' c' u → (n : Rat) < u := fun u hu => v2_le0 f1 hu.1
  by_cases h1 : 0 < two (a' - ((n : Rat) + 1)) b' c'
  · obtain ⟨g1, _⟩ := flR_spec (a := a') (b := b') h'.1
    have g2 := flR_lt (a := a') h'
    have sm : SzI (flR a' b' c') 700 := (flR_sz h').mono (by omega)
    obtain ⟨m, hm⟩ : ∃ m, flR a' b' c' = m := ⟨_, rfl⟩
    rw [hm] at g1 g2 sm
    have h1' := h1
    rw [two_eq h'.1] at h1'
    have q1 : sgn (v2 (a' - ((n : Rat) + 1)) b' c') = 1 := by have := sgn_le_one (v2 (a' - ((n : Rat) + 1)) b' c'); omega
    -- every integer below the second root is not greater than the answer
    have fin : ∀ x : Int, Btw a b c a' b' c' (x : Rat) → (∀ v : Int, sgn (v2 (a' - (v : Rat)) b' c') = 1 → v ≤ x) → Simp (Btw a b c a' b' c') (x : Rat) := by
      intro x hx hmax
      have xneg : x < 0 := by
        have : (x : Rat) < 0 := v2_ge0 hx.2 (by rw [sub0]; exact h0)
        exact_mod_cast this
      refine ⟨hx, fun v hv => ?_, fun _ v hv hd => ?_⟩
      · have : ((x : Int) : Rat).den = 1 := rfl
        have := v.den_pos; omega
      · have e := den1 hd
        have hv2 := hv.2
        rw [e] at hv2
        have := hmax v.num hv2
        have vneg : v.num < 0 := by
          have : v < 0 := v2_ge0 hv.2 (by rw [sub0]; exact h0)
          exact num_neg_iff.2 this
        show x.natAbs ≤ v.num.natAbs
        omega
    by_cases h2 : two (a' - (m : Rat)) b' c' = 0
    · refine ⟨_, .next hn sn h1 hm sm h2, ?_⟩
      rw [two_eq h'.1] at h2
      rw [i1s]
      refine fin (m - 1) ⟨?_, ?_⟩ fun v hv => ?_
      · have hlt : (n : Rat) + 1 < (m : Rat) := v2_ge0 q1 (by omega)
        rw [i1a] at hlt
        have : n + 1 < m := by exact_mod_cast hlt
        refine v2_mono_neg f2 ?_
        rw [i1a]; exact_mod_cast (show n + 1 ≤ m - 1 by omega)
      · have e : v2 (a' - ((m - 1 : Int) : Rat)) b' c' = Re.of 1 + v2 (a' - (m : Rat)) b' c' := Re.ext fun k => by rw [← i1s]; simp only [v2, Re.add_s, Re.mul_s, Re.of_s]; grind
        rw [e, sgn_add_null _ (sgn_zero.1 h2), sgn_of1]
      · have : (v : Rat) < (m : Rat) := v2_ge0 hv (by omega)
        have : v < m := by exact_mod_cast this
        omega
    · refine ⟨_, .nextb hn sn h1 hm sm h2, ?_⟩
      rw [two_eq h'.1] at h2
      have g3 : sgn (v2 (a' - (m : Rat)) b' c') = 1 := by have := sgn_le_one (v2 (a' - (m : Rat)) b' c'); omega
      have hmx : ∀ v : Int, sgn (v2 (a' - (v : Rat)) b' c') = 1 → v ≤ m := fun v hv => by
        have : (v : Rat) < (m : Rat) + 1 := v2_ge0 hv (by omega)
        rw [i1a] at this
        have : v < m + 1 := by exact_mod_cast this
        omega
      refine fin m ⟨?_, g3⟩ hmx
      refine v2_mono_neg f2 ?_
      have := hmx (n + 1) (by rw [← i1a]; exact q1)
      rw [i1a]; exact_mod_cast this
  have h1' : sgn (v2 (a' - ((n : Rat) + 1)) b' c') ≤ 0 := by rw [two_eq h'.1] at h1; omega
  have hz1 : ∀ u, Btw a b c a' b' c' u → u < (n : Rat) + 1 := fun u hu => v2_ge0 hu.2 h1'
  have t' : sgn (v2 (a' - (n : Rat)) b' c') = 1 := v2_mono_pos u1.2 (by have := hnz u u1; grind)
  have hN : nm a' b' c' n ≠ 0 := norm_ne h' (by rw [t']; decide)
  obtain ⟨d, hd⟩ : ∃ d, u.den = d + 1 := ⟨u.den - 1, by have := u.den_pos; omega⟩
  rw [hd] at k2 k3
  have hF' := k3.step h'.1 n (by omega) (v2_one h1') rfl hN
  obtain ⟨sA, sB⟩ := hF'.size k1
  have sc : SzR c 330 := (inferInstance : SzR c 2).mono (by omega)
  have sc' : SzR c' 330 := (inferInstance : SzR c' 2).mono (by omega)
  have sC : SzR (ivC a' b' c' n) 330 := rC_sz sc' (by omega)
  have hR' : Rdc (ivB a' b' c' n) (ivC a' b' c' n) := h'.inv _
  have hP' := inv_pos h'.1 hN t'
  by_cases h2 : two (a - (n : Rat)) b c = 0
  · have h2' : sgn (v2 (a - (n : Rat)) b c) = 0 := by rwa [two_eq h.1] at h2
    obtain ⟨g1, _⟩ := flR_spec (a := ivA a' b' c' n) (b := ivB a' b' c' n) hR'.1
    have g2 := flR_lt (a := ivA a' b' c' n) hR'
    have sm : SzI (flR (ivA a' b' c' n) (ivB a' b' c' n) (ivC a' b' c' n)) 1000 := (flR_sz hR').mono (by omega)
    obtain ⟨m, hm⟩ : ∃ m, flR (ivA a' b' c' n) (ivB a' b' c' n) (ivC a' b' c' n) = m := ⟨_, rfl⟩
    rw [hm] at g1 g2 sm
    have hP1 : 0 ≤ sgn (v2 (ivA a' b' c' n - 1) (ivB a' b' c' n) (ivC a' b' c' n)) := by
      rw [inv_sgn h'.1 hN t' (by decide), show (1 : Rat) / 1 = 1 by grind]; omega
    have m0 : 0 ≤ m := by
      have q1 : (1 : Rat) < (m : Rat) + 1 := v2_le0 hP1 g2
      rw [i1a] at q1
      have : (1 : Int) < m + 1 := by exact_mod_cast q1
      omega
    have mp : (0 : Rat) < (m : Rat) + 1 := by
      rw [i1a]; exact_mod_cast (show 0 < m + 1 by omega)
    refine ⟨_, .last hn sn h1 h2 hN hm sA sB sC hR' sm (by grind), ?_⟩
    have hJ : ∀ w : Rat, 0 < w → (sgn (v2 (ivA a' b' c' n - w) (ivB a' b' c' n) (ivC a' b' c' n)) = -1 ↔ Btw a b c a' b' c' ((n : Rat) + 1 / w)) := by
      intro w hw
      have hwi := div_pos (show (0 : Rat) < 1 by decide) hw
      rw [inv_sgn h'.1 hN t' hw]
      constructor
      · intro q
        refine ⟨?_, by omega⟩
        have q1 : sgn (-v2 (a - (n : Rat)) b c + Re.of (1 / w)) = 1 :=
          (nonneg_add (x := -v2 (a - (n : Rat)) b c) (y := Re.of (1 / w)) (by rw [sgn_neg]; omega) (nn_of.2 (Rat.le_of_lt hwi))).2.1 (.inr (by rw [sgn_of, sgnQ_pos hwi]; decide))
        have q2 : v2 (a - ((n : Rat) + 1 / w)) b c = -(-v2 (a - (n : Rat)) b c + Re.of (1 / w)) := Re.ext fun k => by simp only [v2, Re.add_s, Re.mul_s, Re.of_s, Re.neg_s]; grind
        rw [q2, sgn_neg, q1]
      · intro q; have := q.2; omega
    have hy := SimpP.next (I := fun w => 0 < w ∧ sgn (v2 (ivA a' b' c' n - w) (ivB a' b' c' n) (ivC a' b' c' n)) = -1) (n := m) ⟨by rw [Rat.intCast_add, ic1]; exact mp, by rw [Rat.intCast_add, ic1]; exact g2⟩ m0 (fun u hu => v2_le0 g1 hu.2)
    rw [Rat.intCast_add, ic1] at hy
    obtain ⟨r1, r2⟩ := SimpP.den_step (I := Btw a b c a' b' c') (n := n) (fun w hw => ⟨fun q => (hJ w hw).1 q.2, fun q => ⟨hw, (hJ w hw).2 q⟩⟩) hnz mp hy
    exact Simp.frac (fun v hv => ⟨hnz v hv, hz1 v hv⟩) r1 fun v hv => (r2 v hv).1
  · have t : sgn (v2 (a - (n : Rat)) b c) = 1 := by
      rw [two_eq h.1] at h2
      have := sgn_le_one (v2 (a - (n : Rat)) b c); omega
    have hN0 : nm a b c n ≠ 0 := norm_ne h (by rw [t]; decide)
    have hF := k2.step h.1 n f1 (v2_one (by omega)) rfl hN0
    have sC0 : SzR (ivC a b c n) 330 := rC_sz sc (by omega)
    have hJ : ∀ w : Rat, 0 < w → (Btw (ivA a' b' c' n) (ivB a' b' c' n) (ivC a' b' c' n) (ivA a b c n) (ivB a b c n) (ivC a b c n) w ↔ Btw a b c a' b' c' ((n : Rat) + 1 / w)) := by
      intro w hw
      unfold Btw
      rw [inv_sgn h'.1 hN t' hw, inv_sgn h.1 hN0 t hw]
      constructor
      · intro q; exact ⟨by omega, by omega⟩
      · intro q; exact ⟨by omega, by omega⟩
    have hJ0 : ∀ w : Rat, Btw (ivA a' b' c' n) (ivB a' b' c' n) (ivC a' b' c' n) (ivA a b c n) (ivB a b c n) (ivC a b c n) w → 0 < w := fun w hw =>
      v2_le0 (a := ivA a' b' c' n) (b := ivB a' b' c' n) (c := ivC a' b' c' n) (by rw [sub0]; omega) hw.1
    obtain ⟨w0, w1, w2, w3⟩ := step_den (hnz u u1) (hz1 u u1)
    have hw := (hJ _ w0).2 (by rw [w1]; exact u1)
    have su : SzI (u.den : Int) 700 := u2.mono (by omega)
    obtain ⟨y, y1, y2⟩ := bt_all k1 d _ _ _ _ _ _ _ hR' (h.inv _) (fun q => rC_z q) (fun q => rC_z q) sC sC0 hF' hF (nn_1 hP') hw (by omega) (su.le_of (by omega)) (su.le_of (by omega))
    have yp := hJ0 y y2.1
    obtain ⟨v1, v2'⟩ := y2.2 _ hw
    have yn := num_pos_iff.2 yp
    have sy : SzR y 1000 := ⟨(su.le_of (x := y.num) (by omega)).mono (by omega), (su.le_of (x := (y.den : Int)) (by omega)).mono (by omega)⟩
    refine ⟨_, .step hn sn h1 h2 hN hN0 sy (by grind) y1, ?_⟩
    obtain ⟨r1, r2⟩ := SimpP.den_step (I := Btw a b c a' b' c') (n := n) hJ hnz yp y2
    exact Simp.frac (fun v hv => ⟨hnz v hv, hz1 v hv⟩) r1 fun v hv => (r2 v hv).1
end Go.PL

set_option linter.unusedSimpArgs false
set_option linter.unusedVariables false
set_option maxRecDepth 20000
namespace Go.Proofs.YtdojhoegildiaaaGreat
open Go Go.PL Go.RL
theorem r_bneg {a b c a' b' c' x : Rat} [SzR a 2] [SzR b 2] [SzR c 2] [SzR a' 2] [SzR b' 2] [SzR c' 2] (h : Rdc b c) (h' : Rdc b' c') (z : b = 0 → c = 0) (z' : b' = 0 → c' = 0) (h0 : ¬ 0 < two (a' - 0) b' c') (k0 : two (a - 0) b c < 0) (hx : Bneg a b c a' b' c' x) : Ret Tryz.prog 28 [.a (ratC (a) ++ (ratC (b) ++ ratC (c))), .a (ratC (a') ++ (ratC (b') ++ ratC (c')))] (.e (.a (ratC x))) := by
  haveI i330_0 : SzR a 330 := (inferInstance : SzR a 2).mono (by omega)
  haveI i330_1 : SzR b 330 := (inferInstance : SzR b 2).mono (by omega)
  haveI i330_2 : SzR c 330 := (inferInstance : SzR c 2).mono (by omega)
  haveI i330_3 : SzR a' 330 := (inferInstance : SzR a' 2).mono (by omega)
  haveI i330_4 : SzR b' 330 := (inferInstance : SzR b' 2).mono (by omega)
  haveI i330_5 : SzR c' 330 := (inferInstance : SzR c' 2).mono (by omega)
  cases hx with
  | next hn sn h1 hm sm h2 => exact c_rBetween_2a _ _ _ _ _ _ h h' _ hn h0 k0 h1 _ hm h2
  | nextb hn sn h1 hm sm h2 => exact c_rBetween_2b _ _ _ _ _ _ h h' _ hn h0 k0 h1 _ hm h2
  | last hn sn h1 h2 hN hm sA sB sC hr sm hy => exact c_rBetween_3m _ _ _ _ _ _ h h' _ hn h0 z z' h1 h2 hN _ hm hr hy
  | step hn sn h1 h2 hN hN' sy hy r => exact c_rBetween_4m _ _ _ _ _ _ h h' _ hn h0 z z' h1 h2 hN hN' _ hy (r_rBetween r)
theorem betweens {a b c a' b' c' : Rat} [SzR a 2] [SzR b 2] [SzR c 2] [SzR a' 2] [SzR b' 2] [SzR c' 2] (h : Rdc b c) (h' : Rdc b' c') (z : b = 0 → c = 0) (z' : b' = 0 → c' = 0) (hlt : cmpR a b c a' b' c' < 0) :
    ∃ x, SzR x 700 ∧ Simp (Btw a b c a' b' c') x ∧ Ret Tryz.prog 23 [.a (ratC (a) ++ (ratC (b) ++ ratC (c))), .a (ratC (a') ++ (ratC (b') ++ ratC (c')))] (.t [.a (ratC x), .c (.int .i64 0)]) ∧ Ret Tryz.prog 28 [.a (ratC (a) ++ (ratC (b) ++ ratC (c))), .a (ratC (a') ++ (ratC (b') ++ ratC (c')))] (.e (.a (ratC x))) := by
  have hs := cmpR_lt1 h.1 h'.1 hlt
  have hlt' : ¬ 0 ≤ cmpR a b c a' b' c' := by omega
  have e0 : sgn (v2 a b c) = two (a - 0) b c := by rw [two_eq h.1, sub0]
  have e1 : sgn (v2 a' b' c') = two (a' - 0) b' c' := by rw [two_eq h'.1, sub0]
  by_cases k1 : two (a - 0) b c < 0
  · by_cases k2 : 0 < two (a' - 0) b' c'
    · refine ⟨0, (inferInstance : SzR (0 : Rat) 1).mono (by omega), ⟨⟨?_, ?_⟩, fun v _ => v.den_pos, fun _ v _ _ => Nat.zero_le _⟩, c_Between_1 _ _ _ _ _ _ h.1 h'.1 hlt' k1 k2, ?_⟩
      · rw [two_eq h.1] at k1
        rcases sgn_cases (v2 (a - 0) b c) with ⟨_, q⟩ | ⟨_, q⟩ | ⟨_, q⟩ <;> omega
      · rw [two_eq h'.1] at k2
        have := sgn_le_one (v2 (a' - 0) b' c'); omega
      · haveI : SzR a 330 := (inferInstance : SzR a 2).mono (by omega)
        haveI : SzR b 330 := (inferInstance : SzR b 2).mono (by omega)
        haveI : SzR c 330 := (inferInstance : SzR c 2).mono (by omega)
        haveI : SzR a' 330 := (inferInstance : SzR a' 2).mono (by omega)
        haveI : SzR b' 330 := (inferInstance : SzR b' 2).mono (by omega)
        haveI : SzR c' 330 := (inferInstance : SzR c' 2).mono (by omega)
        exact c_rBetween_z _ _ _ _ _ _ h h' k1 k2
    · obtain ⟨x, x1, x2⟩ := bneg h h' z z' (by omega) hs
      haveI n1 : SzR (-a') 2 := inferInstance
      haveI n2 : SzR (-b') 2 := inferInstance
      haveI n3 : SzR (-a) 2 := inferInstance
      haveI n4 : SzR (-b) 2 := inferInstance
      obtain ⟨y, y1, y2, y3⟩ := bt_pos (a := -a') (b := -b') (c := c') (a' := -a) (b' := -b) (c' := c) h'.neg h.neg (fun q => z' (by grind)) (fun q => z (by grind)) (by rw [v2_neg, sgn_neg]; omega)
        (by
          have e : v2 (-a) (-b) c - v2 (-a') (-b') c' = v2 a' b' c' - v2 a b c := Re.ext fun n => by rw [v2_neg, v2_neg]; simp only [Re.sub_s, Re.neg_s]; grind
          rw [e]; exact hs)
      have ys : Simp (Btw (-a') (-b') c' (-a) (-b) c) y := y2.simp fun u hu => Rat.le_of_lt (v2_le0 (a := -a') (b := -b') (c := c') (by rw [sub0, v2_neg, sgn_neg]; omega) hu.1)
      have e : x = -y := Simp.uniq (fun u v w => Btw.conv) x2 (ys.neg fun u => Btw.neg)
      have hx := r_bneg h h' z z' k2 k1 x1
      subst e
      haveI := y3
      exact ⟨-y, inferInstance, x2, c_Between_2 _ _ _ _ _ _ h.1 h'.1 hlt' k2 (by omega) y (r_between y1), hx⟩
  · obtain ⟨x, x1, x2, x3⟩ := bt_pos h h' z z' (by omega) hs
    haveI := x3
    have hp : ¬ two (a' - 0) b' c' ≤ 0 := by
      have q : 0 < x := v2_le0 (a := a) (b := b) (c := c) (by rw [sub0]; omega) x2.1.1
      have := v2_mono_pos x2.1.2 (Rat.le_of_lt q)
      rw [two_eq h'.1, this]; decide
    exact ⟨x, x3, x2.simp fun u hu => Rat.le_of_lt (v2_le0 (a := a) (b := b) (c := c) (by rw [sub0]; omega) hu.1), c_Between_3 _ _ _ _ _ _ h.1 h'.1 hlt' k1 hp x (r_between x1), r_rBetween x1⟩

end Go.Proofs.YtdojhoegildiaaaGreat

namespace Go.PL
open Go.RL
section
variable {n0 n1 n2 n3 n4 n5 n6 n7 n8 n9 : Bool} {l0 l1 l2 l3 l4 l5 l6 l7 l8 l9 : List Nat} {a b c d e : Rat} {sz bs : Nat} {ag : Bool} {zz : Option (List PC)} {t : TypeId} {k : IntKind}
end
def five_at (p0 p1 p2 p3 p4 : Prop) : Nat → Prop
  | 0 => p0
  | 1 => p1
  | 2 => p2
  | 3 => p3
  | _ => p4
end Go.PL

set_option linter.unusedSimpArgs false
set_option linter.unusedVariables false
namespace Go.PL
open Go.RL
theorem flat_drop {s : Nat} {E : List (List PC)} (hE : ∀ x ∈ E, x.length = s) : ∀ {u : Nat} {x : List PC}, E[u]? = some x → (E.flatten.drop (u * s)).take s = x := by
  induction E with
  | nil => intro u x h; simp at h
  | cons y E ih =>
    intro u x h
    have hy := hE y (List.mem_cons_self ..)
    cases u with
    | zero =>
      simp at h; subst h
      rw [Nat.zero_mul, List.drop_zero, List.flatten_cons, List.take_append_of_le_length (by omega), List.take_of_length_le (by omega)]
    | succ u =>
      rw [List.flatten_cons, show (u + 1) * s = y.length + u * s by rw [hy, Nat.add_mul, Nat.one_mul, Nat.add_comm], List.drop_append, List.drop_of_length_le (by omega), List.nil_append, show y.length + u * s - y.length = u * s by omega]
      exact ih (fun z hz => hE z (List.mem_cons_of_mem _ hz)) (by simpa using h)
theorem idx_flat {s : Nat} {E : List (List PC)} (hE : ∀ x ∈ E, x.length = s) {u n : Nat} {x : List PC} (h : E[u]? = some x) (hn : n = E.length) {sz bs ag zz e k} :
    indexA ⟨sz, bs, ag, zz, .slice e⟩ s (some (.c (.sl n E.flatten))) (some (.c (.int k (u : Int)))) = some (.iptr x) := by
  have hu : u < n := by rw [hn]; exact (List.getElem?_eq_some_iff.1 h).1
  show (if (0 : Int) ≤ (u : Int) ∧ (u : Int) < ((n : Nat) : Int) then some (PC.iptr ((E.flatten.drop ((u : Int).toNat * s)).take s)) else none) = _
  rw [if_pos (by omega), Int.toNat_natCast, flat_drop hE h]
structure RR where
  n1 : Bool
  l1 : List Nat
  n2 : Bool
  l2 : List Nat
def RR.c (r : RR) : List PC := [.bool r.n1, lC r.l1, .bool r.n2, lC r.l2]
def RR.sml (k : Nat) (r : RR) : Bool := smlR k r.n1 r.l1 r.n2 r.l2
def RR.of (q : Rat) : RR := ⟨decide (q.num < 0), limbs q.num.natAbs, decide ((q.den : Int) < 0), limbs ((q.den : Int)).natAbs⟩
def flatR (L : List RR) : List PC := (L.map RR.c).flatten
theorem idxR {L : List RR} {u : Nat} {r : RR} (h : L[u]? = some r) {sz bs ag zz e k} :
    indexA ⟨sz, bs, ag, zz, .slice e⟩ 4 (some (.c (.sl L.length (flatR L)))) (some (.c (.int k (u : Int)))) = some (.iptr [.bool r.n1, lC r.l1, .bool r.n2, lC r.l2]) := by
  refine idx_flat (E := L.map RR.c) (fun x hx => ?_) (by rw [List.getElem?_map, h]; rfl) (by simp)
  obtain ⟨r, _, rfl⟩ := List.mem_map.1 hx
  rfl
theorem take_all {L : List RR} {u : Nat} {r : RR} {p : RR → Bool} (h : L[u]? = some r) (h' : (L.take u).all p = true) (hr : p r = true) : (L.take (u + 1)).all p = true := by
  rw [List.take_add_one, h, List.all_append, h']; simpa using hr
theorem all_no {L : List RR} {u : Nat} {r : RR} {p : RR → Bool} (h : L[u]? = some r) (hr : p r = false) : L.all p = false := by
  rw [List.all_eq_false]
  exact ⟨r, List.mem_of_getElem? h, by rw [hr]; simp⟩
theorem flatR_ne {L : List RR} {u : Nat} {r : RR} (h : L[u]? = some r) : (flatR L = []) = False := by
  cases L with
  | nil => simp at h
  | cons a L => simp [flatR, RR.c]
theorem flatR_im (L : List RR) : (flatR L).all PC.im = true := by
  induction L with
  | nil => rfl
  | cons a L ih => simp only [flatR, List.map_cons, List.flatten_cons, List.all_append] at ih ⊢; rw [ih]; rfl
theorem flatR_nm (L : List RR) : (flatR L).map PC.norm = flatR L := by
  induction L with
  | nil => rfl
  | cons a L ih => simp only [flatR, List.map_cons, List.flatten_cons, List.map_append] at ih ⊢; rw [ih]; rfl
theorem few_cases {u : Nat} {L : List RR} (h : u < L.length) : ∃ r, L[u]? = some r ∧ ((2 < r.l1.length) ∨ (r.l1.length ≤ 2 ∧ 2 < r.l2.length) ∨ (r.l1.length ≤ 2 ∧ r.l2.length ≤ 2 ∧ vldR r.n1 r.l1 r.n2 r.l2 = false) ∨ (r.l1.length ≤ 2 ∧ r.l2.length ≤ 2 ∧ vldR r.n1 r.l1 r.n2 r.l2 = true)) := by
  refine ⟨L[u], List.getElem?_eq_getElem h, ?_⟩
  generalize L[u] = r
  have h1 := Nat.lt_or_ge 2 r.l1.length
  have h2 := Nat.lt_or_ge 2 r.l2.length
  rcases h1 with h1 | h1
  · exact .inl h1
  rcases h2 with h2 | h2
  · exact .inr (.inl ⟨h1, h2⟩)
  rcases h3 : vldR r.n1 r.l1 r.n2 r.l2 with _ | _
  · exact .inr (.inr (.inl ⟨h1, h2, rfl⟩))
  · exact .inr (.inr (.inr ⟨h1, h2, rfl⟩))
theorem sml_1 {k : Nat} {r : RR} (h : k < r.l1.length) : r.sml k = false := by simp [RR.sml, smlR]; omega
theorem sml_2 {k : Nat} {r : RR} (h : k < r.l2.length) : r.sml k = false := by simp [RR.sml, smlR]; omega
theorem sml_3 {k : Nat} {r : RR} (h : vldR r.n1 r.l1 r.n2 r.l2 = false) : r.sml k = false := by simp [RR.sml, smlR, h]
theorem sml_4 {k : Nat} {r : RR} (h1 : r.l1.length ≤ k) (h2 : r.l2.length ≤ k) (h : vldR r.n1 r.l1 r.n2 r.l2 = true) : r.sml k = true := by simp [RR.sml, smlR, h, h1, h2]
theorem sml_true {k : Nat} {r : RR} (h : r.sml k = true) : ∃ q : Rat, SzR q k ∧ r = RR.of q := by
  obtain ⟨q, h1, h2, h3, h4, h5⟩ := smlR_true h
  refine ⟨q, h1, ?_⟩
  cases r; subst h2; subst h3; subst h4; subst h5; rfl
theorem RR.of_sml (q : Rat) {k : Nat} [SzR q k] : (RR.of q).sml k = true := smlR_rat q
theorem vld3_rdc {b c : Rat} (h : vld3 b c = true) : Rdc b c ∧ (b = 0 → c = 0) := by
  unfold vld3 at h
  split at h
  · rename_i q
    simp only [Bool.and_eq_true, decide_eq_true_eq] at h
    exact ⟨⟨by rw [h.2]; exact Rat.le_refl, .inl h.1⟩, fun _ => h.2⟩
  · rename_i q
    simp only [Bool.and_eq_true, decide_eq_true_eq, Bool.not_eq_true'] at h
    exact ⟨⟨Rat.le_of_lt h.1, .inr h.2⟩, fun k => absurd (.inl k) q⟩
end Go.PL

set_option linter.unusedSimpArgs false
set_option linter.unusedVariables false
set_option maxRecDepth 20000
namespace Go.Proofs.YtdojhoegildiaaaGreat
open Go Go.PL Go.RL
set_option maxHeartbeats 4000000 in
theorem c_Few (L : List RR) (hL : L.length ≤ 1000) :
    Ret Tryz.prog 11 [.c (.sl L.length (flatR L))] (.e (.c (.bool (L.all (RR.sml 2))))) := by
  refine ret_of_body (md := {}) Tryz.func11 (by kernel_rfl) rfl ?_; simp only [Tryz.f11, go_sem, Nat.reduceAdd, Nat.reduceSub, List.reduceReplicate]; refine pwx_sr 0 [] (by rfl) fun _ K1 => ?_; simp (disch := omega) only [go_sem, flatR_im, flatR_nm]; refine K1 _ ?_; clear K1; refine pwp_seq ?_; refine pwx_sr 0 [] (by rfl) fun _ K2 => ?_; simp (disch := omega) only [go_sem, flatR_im, flatR_nm]; refine K2 _ ?_; clear K2; refine pwp_block ?_; refine pwp_loopF (true :: false :: true :: true :: false :: false :: false :: false :: false :: false :: false :: false :: false :: false :: false :: false :: false :: false :: false :: false :: false :: false :: false :: false :: false :: false :: false :: false :: false :: false :: false :: false :: false :: false :: false :: false :: []) 0 (fun M s => ∃ u : Nat, (u ≤ L.length) ∧ ((L.take u).all (RR.sml 2) = true) ∧ L.length - u = M ∧ s = { slots := .e (.c (.sl L.length (flatR L))) :: .j :: .e (.c (.bool false)) :: .e (.c (.int .i64 (u : Int))) :: .j :: .j :: .j :: .j :: .j :: .j :: .j :: .j :: .j :: .j :: .j :: .j :: .j :: .j :: .j :: .j :: .j :: .j :: .j :: .j :: .j :: .j :: .j :: .j :: .j :: .j :: .j :: .j :: .j :: .j :: .j :: .j :: [], st := [] }) (n := L.length) rfl ?_ ?_ ?_
  · refine ⟨0, ?_, ?_, rfl, ?_⟩
    · omega
    · rfl
    · first | rfl | simp [St.cut, keep]
  · refine ⟨rfl, ?_, ?_⟩ <;> first | rfl | (simp [keep, PV.lt, PE.lt, PC.lt, Box.lt, ↓lC_lt]; done) | simp [keep, PV.lt, PE.lt, PC.lt, Box.lt, ↓lC_lt, ↓intC_lt, ↓ratC_lt, ↓u32s_lt]
  · rintro _ _ ⟨u, hu, ha, rfl, rfl⟩
    refine pwp_seq ?_; refine pwx_sr 0 [] (by rfl) fun _ K3 => ?_; simp (disch := omega) only [go_sem, flatR_im, flatR_nm]; refine K3 _ ?_; clear K3; refine pwp_cond (b := _) (by rfl) (fun hb0 => ?_) (fun hb0 => ?_)
    · replace hb0 := of_decide_eq_true hb0
      have hlt : u < L.length := by omega
      refine pwp_skip ?_; refine n_then ?_; refine pwp_seq ?_; refine pwp_block ?_; obtain ⟨r, hr, h1 | ⟨h1, h2⟩ | ⟨h1, h2, h3⟩ | ⟨h1, h2, h3⟩⟩ := few_cases hlt
      · have hne := flatR_ne hr; have hix := @idxR L u r hr; refine pwx_sr 0 [some 10, some 11, some 12, some 13, some 14, some 15, some 16, some 17, some 18, some 19, some 20, some 21, some 22, some 23, some 24, some 25, some 26, some 27, some 28, some 29, some 30, some 31, some 32, some 33, some 34, some 35] (by rfl) fun _ K4 => ?_; refine rgnX_take 24 fun _ K5 => ?_; simp (disch := omega) only [go_sem, flatR_im, flatR_nm, hix, hne, ilt_T]
        first | refine ⟨_, c_swarfref02_Valid _ _ _ _ (by omega) (by omega), ?_⟩ | skip
        refine K5 _ ?_; simp (disch := omega) only [go_sem, flatR_im, flatR_nm, hix, hne, ilt_T]; refine K4 _ ?_; clear K5 K4; refine pwp_cond (b := true) (by rfl) (fun _ => ?_) (fun h => nomatch h); refine pwx_sr 0 [] (by rfl) fun _ K6 => ?_; simp (disch := omega) only [go_sem, flatR_im, flatR_nm]; refine K6 _ ?_; clear K6; refine pwp_ret ?_; refine r_block ?_; refine r_then ?_; refine r_then ?_; refine r_block ?_; refine r_then ?_; refine ⟨Or.inr rfl, ?_⟩; simp (disch := omega) only [go_sem, flatR_im, flatR_nm]; exact (all_no hr (sml_1 h1))
      · have hne := flatR_ne hr; have hix := @idxR L u r hr; refine pwx_sr 0 [some 10, some 11, some 12, some 13, some 14, some 15, some 16, some 17, some 18, some 19, some 20, some 21, some 22, some 23, some 24, some 25, some 26, some 27, some 28, some 29, some 30, some 31, some 32, some 33, some 34, some 35] (by rfl) fun _ K7 => ?_; refine rgnX_take 24 fun _ K8 => ?_; simp (disch := omega) only [go_sem, flatR_im, flatR_nm, hix, hne, ilt_T, ilt_F]
        first | refine ⟨_, c_swarfref02_Valid _ _ _ _ (by omega) (by omega), ?_⟩ | skip
        refine K8 _ ?_; simp (disch := omega) only [go_sem, flatR_im, flatR_nm, hix, hne, ilt_T, ilt_F]; refine K7 _ ?_; clear K8 K7; refine pwp_cond (b := true) (by rfl) (fun _ => ?_) (fun h => nomatch h); refine pwx_sr 0 [] (by rfl) fun _ K9 => ?_; simp (disch := omega) only [go_sem, flatR_im, flatR_nm]; refine K9 _ ?_; clear K9; refine pwp_ret ?_; refine r_block ?_; refine r_then ?_; refine r_then ?_; refine r_block ?_; refine r_then ?_; refine ⟨Or.inr rfl, ?_⟩; simp (disch := omega) only [go_sem, flatR_im, flatR_nm]; exact (all_no hr (sml_2 h2))
      · have hne := flatR_ne hr; have hix := @idxR L u r hr; refine pwx_sr 0 [some 10, some 11, some 12, some 13, some 14, some 15, some 16, some 17, some 18, some 19, some 20, some 21, some 22, some 23, some 24, some 25, some 26, some 27, some 28, some 29, some 30, some 31, some 32, some 33, some 34, some 35] (by rfl) fun _ K10 => ?_; refine rgnX_take 24 fun _ K11 => ?_; simp (disch := omega) only [go_sem, flatR_im, flatR_nm, hix, hne, ilt_F, h3]
        first | refine ⟨_, c_swarfref02_Valid _ _ _ _ (by omega) (by omega), ?_⟩ | skip
        refine K11 _ ?_; simp (disch := omega) only [go_sem, flatR_im, flatR_nm, hix, hne, ilt_F, h3]; refine K10 _ ?_; clear K11 K10; refine pwp_cond (b := true) (by rfl) (fun _ => ?_) (fun h => nomatch h); refine pwx_sr 0 [] (by rfl) fun _ K12 => ?_; simp (disch := omega) only [go_sem, flatR_im, flatR_nm]; refine K12 _ ?_; clear K12; refine pwp_ret ?_; refine r_block ?_; refine r_then ?_; refine r_then ?_; refine r_block ?_; refine r_then ?_; refine ⟨Or.inr rfl, ?_⟩; simp (disch := omega) only [go_sem, flatR_im, flatR_nm]; exact (all_no hr (sml_3 h3))
      · have hne := flatR_ne hr; have hix := @idxR L u r hr; refine pwx_sr 0 [some 10, some 11, some 12, some 13, some 14, some 15, some 16, some 17, some 18, some 19, some 20, some 21, some 22, some 23, some 24, some 25, some 26, some 27, some 28, some 29, some 30, some 31, some 32, some 33, some 34, some 35] (by rfl) fun _ K13 => ?_; refine rgnX_take 24 fun _ K14 => ?_; simp (disch := omega) only [go_sem, flatR_im, flatR_nm, hix, hne, ilt_F, h3]
        first | refine ⟨_, c_swarfref02_Valid _ _ _ _ (by omega) (by omega), ?_⟩ | skip
        refine K14 _ ?_; simp (disch := omega) only [go_sem, flatR_im, flatR_nm, hix, hne, ilt_F, h3]; refine K13 _ ?_; clear K14 K13; refine pwp_cond (b := false) (by rfl) (fun h => nomatch h) (fun _ => ?_); refine pwp_skip ?_; refine n_block ?_; refine n_then ?_; refine pwx_region 0 [] (by rfl) fun _ K15 => ?_; simp (disch := omega) only [go_sem, flatR_im, flatR_nm]; refine K15 _ ?_; clear K15; refine n_then ?_; refine ⟨_, ?hdec, ⟨u + 1, ?hf0, ?hf1, rfl, ?heq⟩, ?hok⟩
        case heq => first | rfl | simp [St.cut, keep]
        case hf0 => omega
        case hf1 => exact take_all hr ha (sml_4 h1 h2 h3)
        case hdec => omega
        case hok => refine ⟨rfl, ?_, ?_⟩ <;> first | rfl | (simp [keep, PV.lt, PE.lt, PC.lt, Box.lt, ↓lC_lt]; done) | simp [keep, PV.lt, PE.lt, PC.lt, Box.lt, ↓lC_lt, ↓intC_lt, ↓ratC_lt, ↓u32s_lt]
    · replace hb0 := of_decide_eq_false hb0
      obtain rfl : u = L.length := by omega
      refine pwp_exit ?_; refine e_then ?_; refine e_then ?_; refine e_here ?_; refine n_then ?_; refine pwx_sr 0 [] (by rfl) fun _ K16 => ?_; simp (disch := omega) only [go_sem, flatR_im, flatR_nm]; refine K16 _ ?_; clear K16; refine pwp_ret ?_; refine ⟨Or.inr rfl, ?_⟩; simp (disch := omega) only [go_sem, flatR_im, flatR_nm]
      rw [List.take_length] at ha; exact ha
theorem c_Few3_f (n0 n1 n2 n3 n4 n5 : Bool) (l0 l1 l2 l3 l4 l5 : List Nat) (h : [RR.mk n0 l0 n1 l1, RR.mk n2 l2 n3 l3, RR.mk n4 l4 n5 l5].all (RR.sml 2) = false) : Ret Tryz.prog 11 [.c (.sl 3 [.bool n0, lC l0, .bool n1, lC l1, .bool n2, lC l2, .bool n3, lC l3, .bool n4, lC l4, .bool n5, lC l5])] (.e (.c (.bool false))) := by
  have q := c_Few [RR.mk n0 l0 n1 l1, RR.mk n2 l2 n3 l3, RR.mk n4 l4 n5 l5] (by simp); rw [h] at q; exact q
theorem c_Few3_t (q0 q1 q2 : Rat) [SzR q0 2] [SzR q1 2] [SzR q2 2] : Ret Tryz.prog 11 [.c (.sl 3 (ratC q0 ++ (ratC q1 ++ ratC q2)))] (.e (.c (.bool true))) := by
  have q := c_Few [RR.of q0, RR.of q1, RR.of q2] (by simp); rw [show [RR.of q0, RR.of q1, RR.of q2].all (RR.sml 2) = true by simp [RR.of_sml]] at q; exact q
theorem few3_or (n0 n1 n2 n3 n4 n5 : Bool) (l0 l1 l2 l3 l4 l5 : List Nat) : Ret Tryz.prog 11 [.c (.sl 3 [.bool n0, lC l0, .bool n1, lC l1, .bool n2, lC l2, .bool n3, lC l3, .bool n4, lC l4, .bool n5, lC l5])] (.e (.c (.bool false))) ∨ ∃ q0 q1 q2 : Rat, SzR q0 2 ∧ SzR q1 2 ∧ SzR q2 2 ∧ ([.bool n0, lC l0, .bool n1, lC l1, .bool n2, lC l2, .bool n3, lC l3, .bool n4, lC l4, .bool n5, lC l5] : List PC) = ratC q0 ++ (ratC q1 ++ ratC q2) ∧ Ret Tryz.prog 11 [.c (.sl 3 (ratC q0 ++ (ratC q1 ++ ratC q2)))] (.e (.c (.bool true))) := by
  rcases h : [RR.mk n0 l0 n1 l1, RR.mk n2 l2 n3 l3, RR.mk n4 l4 n5 l5].all (RR.sml 2) with _ | _
  · exact .inl (c_Few3_f n0 n1 n2 n3 n4 n5 l0 l1 l2 l3 l4 l5 h)
  · simp only [List.all_cons, List.all_nil, Bool.and_true, Bool.and_eq_true] at h
    obtain ⟨h0, h1, h2⟩ := h
    obtain ⟨q0, s0, e0⟩ := sml_true h0; cases e0
    obtain ⟨q1, s1, e1⟩ := sml_true h1; cases e1
    obtain ⟨q2, s2, e2⟩ := sml_true h2; cases e2
    exact .inr ⟨q0, q1, q2, s0, s1, s2, rfl, c_Few3_t _ _ _⟩
set_option maxHeartbeats 4000000 in
theorem c_rSmall_f (n0 n1 n2 n3 n4 n5 : Bool) (l0 l1 l2 l3 l4 l5 : List Nat) (h1 : Ret Tryz.prog 11 [.c (.sl 3 [.bool n0, lC l0, .bool n1, lC l1, .bool n2, lC l2, .bool n3, lC l3, .bool n4, lC l4, .bool n5, lC l5])] (.e (.c (.bool false)))) :
    Ret Tryz.prog 17 [.a [.bool n0, lC l0, .bool n1, lC l1, .bool n2, lC l2, .bool n3, lC l3, .bool n4, lC l4, .bool n5, lC l5]] (.e (.c (.bool false))) := by
  refine ret_of_body (md := {}) Tryz.func17 (by kernel_rfl) rfl ?_; simp only [Tryz.f17, go_sem, Nat.reduceAdd, Nat.reduceSub, List.reduceReplicate]; refine pwx_sr 1 [] (by rfl) fun _ K1 => ?_; simp (disch := omega) only [go_sem]; refine K1 _ ?_; clear K1; refine pwp_seq ?_; refine pwx_sr 1 [] (by rfl) fun _ K2 => ?_; refine rgnX_take 8 fun _ K3 => ?_; simp (disch := omega) only [go_sem]; refine ⟨_, h1, ?_⟩; refine K3 _ ?_; simp (disch := omega) only [go_sem]; refine K2 _ ?_; clear K3 K2; refine pwp_cond (b := true) (by rfl) (fun _ => ?_) (fun h => nomatch h); refine pwx_sr 0 [] (by rfl) fun _ K4 => ?_; simp (disch := omega) only [go_sem]; refine K4 _ ?_; clear K4; refine pwp_ret ?_; refine r_then ?_; refine ⟨Or.inr rfl, ?_⟩; simp (disch := omega) only [go_sem]
set_option maxHeartbeats 4000000 in
theorem c_rSmall (a b c : Rat) [SzR a 2] [SzR b 2] [SzR c 2] :
    Ret Tryz.prog 17 [.a (ratC (a) ++ (ratC (b) ++ ratC (c)))] (.e (.c (.bool (vld3 b c)))) := by
  refine ret_of_body (md := {}) Tryz.func17 (by kernel_rfl) rfl ?_; simp only [Tryz.f17, go_sem, Nat.reduceAdd, Nat.reduceSub, List.reduceReplicate]; refine pwx_sr 1 [] (by rfl) fun _ K1 => ?_; simp (disch := omega) only [go_sem]; refine K1 _ ?_; clear K1; refine pwp_seq ?_; refine pwx_sr 1 [] (by rfl) fun _ K2 => ?_; refine rgnX_take 8 fun _ K3 => ?_; simp (disch := omega) only [go_sem]; refine ⟨_, c_Few3_t _ _ _, ?_⟩; refine K3 _ ?_; simp (disch := omega) only [go_sem]; refine K2 _ ?_; clear K3 K2; refine pwp_cond (b := false) (by rfl) (fun h => nomatch h) (fun _ => ?_); refine pwp_skip ?_; refine n_then ?_; refine pwp_seq ?_
  by_cases hb0 : b = 0 <;> by_cases hc0 : c = 0
  · have hbd := decide_eq_true hb0; have hcd := decide_eq_true hc0; refine pwx_sr 0 [some 14, some 15, some 16, some 17, some 18, some 19, some 20, some 21, some 22, some 23] (by rfl) fun _ K4 => ?_; refine rgnX_take 3 fun _ K5 => ?_; simp (disch := omega) only [go_sem, hbd, hcd]; refine ⟨_, c_swarfref02_Sign _, ?_⟩; refine K5 _ ?_; refine rgnX_take 5 fun _ K6 => ?_; simp (disch := omega) only [go_sem, hbd, hcd]
    first | refine ⟨_, c_swarfref02_Sign _, ?_⟩ | skip
    refine K6 _ ?_; simp (disch := omega) only [go_sem, hbd, hcd]; refine K4 _ ?_; clear K6 K5 K4; refine pwp_cond (b := true) (by rfl) (fun _ => ?_) (fun h => nomatch h); refine pwx_sr 0 [some 24, some 25, some 26, some 27, some 28, some 29, some 30, some 31, some 32, some 33, some 2] (by rfl) fun _ K7 => ?_; refine rgnX_take 3 fun _ K8 => ?_; simp (disch := omega) only [go_sem, hbd, hcd]; refine ⟨_, c_swarfref02_Sign _, ?_⟩; refine K8 _ ?_; refine rgnX_take 5 fun _ K9 => ?_; simp (disch := omega) only [go_sem, hbd, hcd]
    first | refine ⟨_, c_swarfref02_Sign _, ?_⟩ | skip
    refine K9 _ ?_; simp (disch := omega) only [go_sem, hbd, hcd]; refine K7 _ ?_; clear K9 K8 K7; refine pwp_ret ?_; refine r_then ?_; refine ⟨Or.inr rfl, ?_⟩; simp (disch := omega) only [go_sem]
    all_goals simp_all [vld3]
  · have hbd := decide_eq_true hb0; have hcd := decide_eq_false hc0; refine pwx_sr 0 [some 14, some 15, some 16, some 17, some 18, some 19, some 20, some 21, some 22, some 23] (by rfl) fun _ K10 => ?_; refine rgnX_take 3 fun _ K11 => ?_; simp (disch := omega) only [go_sem, hbd, hcd]; refine ⟨_, c_swarfref02_Sign _, ?_⟩; refine K11 _ ?_; refine rgnX_take 5 fun _ K12 => ?_; simp (disch := omega) only [go_sem, hbd, hcd]
    first | refine ⟨_, c_swarfref02_Sign _, ?_⟩ | skip
    refine K12 _ ?_; simp (disch := omega) only [go_sem, hbd, hcd]; refine K10 _ ?_; clear K12 K11 K10; refine pwp_cond (b := true) (by rfl) (fun _ => ?_) (fun h => nomatch h); refine pwx_sr 0 [some 24, some 25, some 26, some 27, some 28, some 29, some 30, some 31, some 32, some 33, some 2] (by rfl) fun _ K13 => ?_; refine rgnX_take 3 fun _ K14 => ?_; simp (disch := omega) only [go_sem, hbd, hcd]; refine ⟨_, c_swarfref02_Sign _, ?_⟩; refine K14 _ ?_; refine rgnX_take 5 fun _ K15 => ?_; simp (disch := omega) only [go_sem, hbd, hcd]
    first | refine ⟨_, c_swarfref02_Sign _, ?_⟩ | skip
    refine K15 _ ?_; simp (disch := omega) only [go_sem, hbd, hcd]; refine K13 _ ?_; clear K15 K14 K13; refine pwp_ret ?_; refine r_then ?_; refine ⟨Or.inr rfl, ?_⟩; simp (disch := omega) only [go_sem]
    all_goals simp_all [vld3]
  · have hbd := decide_eq_false hb0; have hcd := decide_eq_true hc0; refine pwx_sr 0 [some 14, some 15, some 16, some 17, some 18, some 19, some 20, some 21, some 22, some 23] (by rfl) fun _ K16 => ?_; refine rgnX_take 3 fun _ K17 => ?_; simp (disch := omega) only [go_sem, hbd, hcd]; refine ⟨_, c_swarfref02_Sign _, ?_⟩; refine K17 _ ?_; refine rgnX_take 5 fun _ K18 => ?_; simp (disch := omega) only [go_sem, hbd, hcd]
    first | refine ⟨_, c_swarfref02_Sign _, ?_⟩ | skip
    refine K18 _ ?_; simp (disch := omega) only [go_sem, hbd, hcd]; refine K16 _ ?_; clear K18 K17 K16; refine pwp_cond (b := true) (by rfl) (fun _ => ?_) (fun h => nomatch h); refine pwx_sr 0 [some 24, some 25, some 26, some 27, some 28, some 29, some 30, some 31, some 32, some 33, some 2] (by rfl) fun _ K19 => ?_; refine rgnX_take 3 fun _ K20 => ?_; simp (disch := omega) only [go_sem, hbd, hcd]; refine ⟨_, c_swarfref02_Sign _, ?_⟩; refine K20 _ ?_; refine rgnX_take 5 fun _ K21 => ?_; simp (disch := omega) only [go_sem, hbd, hcd]
    first | refine ⟨_, c_swarfref02_Sign _, ?_⟩ | skip
    refine K21 _ ?_; simp (disch := omega) only [go_sem, hbd, hcd]; refine K19 _ ?_; clear K21 K20 K19; refine pwp_ret ?_; refine r_then ?_; refine ⟨Or.inr rfl, ?_⟩; simp (disch := omega) only [go_sem]
    all_goals simp_all [vld3]
  · have hbd := decide_eq_false hb0; have hcd := decide_eq_false hc0; refine pwx_sr 0 [some 14, some 15, some 16, some 17, some 18, some 19, some 20, some 21, some 22, some 23] (by rfl) fun _ K22 => ?_; refine rgnX_take 3 fun _ K23 => ?_; simp (disch := omega) only [go_sem, hbd, hcd]; refine ⟨_, c_swarfref02_Sign _, ?_⟩; refine K23 _ ?_; refine rgnX_take 5 fun _ K24 => ?_; simp (disch := omega) only [go_sem, hbd, hcd]
    first | refine ⟨_, c_swarfref02_Sign _, ?_⟩ | skip
    refine K24 _ ?_; simp (disch := omega) only [go_sem, hbd, hcd]; refine K22 _ ?_; clear K24 K23 K22; refine pwp_cond (b := false) (by rfl) (fun h => nomatch h) (fun _ => ?_); refine pwp_skip ?_; refine n_then ?_
    rcases hs : sqB c with _ | _
    · refine pwx_sr 1 [] (by rfl) fun _ K25 => ?_; refine rgnX_take 3 fun _ K26 => ?_; simp (disch := omega) only [go_sem, hs]
      first | refine ⟨_, c_swarfref02_Sqrt_f _ (by omega) hs, ?_⟩ | refine ⟨_, c_swarfref02_Sqrt_t _ (by omega) hs, ?_⟩
      refine K26 _ ?_; simp (disch := omega) only [go_sem, hs]; refine K25 _ ?_; clear K26 K25; by_cases hcp : 0 < c
      · have hcpd := decide_eq_true hcp; refine pwx_sr 0 [some 40, some 41, some 42, some 43, some 44, some 45, some 46, some 47, some 2] (by rfl) fun _ K27 => ?_; refine rgnX_take 3 fun _ K28 => ?_; simp (disch := omega) only [go_sem, hcpd, hs]; refine ⟨_, c_swarfref02_Sign _, ?_⟩; refine K28 _ ?_; simp (disch := omega) only [go_sem, hcpd, hs]; refine K27 _ ?_; clear K28 K27; refine pwp_ret ?_; refine ⟨Or.inr rfl, ?_⟩; simp (disch := omega) only [go_sem]
        all_goals simp_all [vld3]
      · have hcpd := decide_eq_false hcp; refine pwx_sr 0 [some 40, some 41, some 42, some 43, some 44, some 45, some 46, some 47, some 2] (by rfl) fun _ K29 => ?_; refine rgnX_take 3 fun _ K30 => ?_; simp (disch := omega) only [go_sem, hcpd, hs]; refine ⟨_, c_swarfref02_Sign _, ?_⟩; refine K30 _ ?_; simp (disch := omega) only [go_sem, hcpd, hs]; refine K29 _ ?_; clear K30 K29; refine pwp_ret ?_; refine ⟨Or.inr rfl, ?_⟩; simp (disch := omega) only [go_sem]
        all_goals simp_all [vld3]
    · refine pwx_sr 1 [] (by rfl) fun _ K31 => ?_; refine rgnX_take 3 fun _ K32 => ?_; simp (disch := omega) only [go_sem, hs]
      first | refine ⟨_, c_swarfref02_Sqrt_f _ (by omega) hs, ?_⟩ | refine ⟨_, c_swarfref02_Sqrt_t _ (by omega) hs, ?_⟩
      refine K32 _ ?_; simp (disch := omega) only [go_sem, hs]; refine K31 _ ?_; clear K32 K31; by_cases hcp : 0 < c
      · have hcpd := decide_eq_true hcp; refine pwx_sr 0 [some 40, some 41, some 42, some 43, some 44, some 45, some 46, some 47, some 2] (by rfl) fun _ K33 => ?_; refine rgnX_take 3 fun _ K34 => ?_; simp (disch := omega) only [go_sem, hcpd, hs]; refine ⟨_, c_swarfref02_Sign _, ?_⟩; refine K34 _ ?_; simp (disch := omega) only [go_sem, hcpd, hs]; refine K33 _ ?_; clear K34 K33; refine pwp_ret ?_; refine ⟨Or.inr rfl, ?_⟩; simp (disch := omega) only [go_sem]
        all_goals simp_all [vld3]
      · have hcpd := decide_eq_false hcp; refine pwx_sr 0 [some 40, some 41, some 42, some 43, some 44, some 45, some 46, some 47, some 2] (by rfl) fun _ K35 => ?_; refine rgnX_take 3 fun _ K36 => ?_; simp (disch := omega) only [go_sem, hcpd, hs]; refine ⟨_, c_swarfref02_Sign _, ?_⟩; refine K36 _ ?_; simp (disch := omega) only [go_sem, hcpd, hs]; refine K35 _ ?_; clear K36 K35; refine pwp_ret ?_; refine ⟨Or.inr rfl, ?_⟩; simp (disch := omega) only [go_sem]
        all_goals simp_all [vld3]
theorem rsmall_or (n0 n1 n2 n3 n4 n5 : Bool) (l0 l1 l2 l3 l4 l5 : List Nat) : Ret Tryz.prog 17 [.a [.bool n0, lC l0, .bool n1, lC l1, .bool n2, lC l2, .bool n3, lC l3, .bool n4, lC l4, .bool n5, lC l5]] (.e (.c (.bool false))) ∨ ∃ a b c : Rat, SzR a 2 ∧ SzR b 2 ∧ SzR c 2 ∧ vld3 b c = true ∧ ([.bool n0, lC l0, .bool n1, lC l1, .bool n2, lC l2, .bool n3, lC l3, .bool n4, lC l4, .bool n5, lC l5] : List PC) = (ratC a ++ (ratC b ++ ratC c)) ∧ Ret Tryz.prog 17 [.a (ratC a ++ (ratC b ++ ratC c))] (.e (.c (.bool true))) := by
  rcases few3_or n0 n1 n2 n3 n4 n5 l0 l1 l2 l3 l4 l5 with h | ⟨a, b, c, ha, hb, hc, e, h⟩
  · exact .inl (c_rSmall_f n0 n1 n2 n3 n4 n5 l0 l1 l2 l3 l4 l5 h)
  rw [e]
  rcases hv : vld3 b c with _ | _
  · left; rw [← hv]; exact c_rSmall a b c
  · refine .inr ⟨a, b, c, ha, hb, hc, hv, rfl, ?_⟩
    have q := c_rSmall a b c
    rw [hv] at q
    exact q

end Go.Proofs.YtdojhoegildiaaaGreat

set_option linter.unusedSimpArgs false
set_option linter.unusedVariables false
namespace Go.PL
open Go.RL
instance : SzR 4 1 := ⟨szi_lit (by decide), szi_lit (by decide)⟩
instance : SzR 25 1 := ⟨szi_lit (by decide), szi_lit (by decide)⟩
instance : SzR (-3) 1 := ⟨szi_lit (by decide), szi_lit (by decide)⟩
theorem nu_0 : ((0 : Int) : Rat) = 0 := rfl
theorem nu_1 : ((1 : Int) : Rat) = 1 := rfl
theorem nu_2 : ((2 : Int) : Rat) = 2 := rfl
theorem nu_3 : ((3 : Int) : Rat) = 3 := rfl
theorem nu_4 : ((4 : Int) : Rat) = 4 := rfl
theorem nu_5 : ((5 : Int) : Rat) = 5 := rfl
theorem nu_8 : ((8 : Int) : Rat) = 8 := rfl
theorem nu_25 : ((25 : Int) : Rat) = 25 := rfl
theorem nu_m2 : ((-2 : Int) : Rat) = -2 := rfl
theorem nu_m3 : ((-3 : Int) : Rat) = -3 := rfl
theorem idx4 {d p q r x : Rat} {u : Nat} (h : [d, p, q, r][u]? = some x) {sz bs ag zz e k} :
    indexA ⟨sz, bs, ag, zz, .slice e⟩ 4 (some (.c (.sl 4 (ratC d ++ (ratC p ++ (ratC q ++ ratC r)))))) (some (.c (.int k (u : Int)))) = some (.iptr (ratC x)) := by
  refine idx_flat (s := 4) (E := [ratC d, ratC p, ratC q, ratC r]) (fun x hx => ?_) (by
    have e : [ratC d, ratC p, ratC q, ratC r] = [d, p, q, r].map ratC := rfl
    rw [e, List.getElem?_map, h]; rfl) rfl
  simp only [List.mem_cons, List.not_mem_nil, or_false] at hx
  rcases hx with rfl | rfl | rfl | rfl <;> simp
theorem get4 {d p q r : Rat} {u : Nat} (h : u < 4) : ∃ x, [d, p, q, r][u]? = some x := ⟨_, List.getElem?_eq_getElem (l := [d, p, q, r]) h⟩
theorem of4 {d p q r : Rat} (h : ¬ d < 0 ∧ ¬ p < 0 ∧ ¬ q < 0 ∧ ¬ r < 0) {u : Nat} {x : Rat} (hx : [d, p, q, r][u]? = some x) : ¬ x < 0 := by
  have := List.mem_of_getElem? hx
  simp only [List.mem_cons, List.not_mem_nil, or_false] at this
  rcases this with rfl | rfl | rfl | rfl
  · exact h.1
  · exact h.2.1
  · exact h.2.2.1
  · exact h.2.2.2
theorem step4 {d p q r x : Rat} {u : Nat} (h : ∀ i, i < u → ∀ x, [d, p, q, r][i]? = some x → ¬ x < 0) (hx : [d, p, q, r][u]? = some x) (hn : ¬ x < 0) : ∀ i, i < u + 1 → ∀ x, [d, p, q, r][i]? = some x → ¬ x < 0 := by
  intro i hi y hy
  rcases Nat.lt_or_eq_of_le (show i ≤ u by omega) with k | k
  · exact h i k y hy
  · subst k; rw [hx] at hy; cases hy; exact hn
theorem ex_rdc : ∀ c : Rat, (c = 2 ∨ c = 3) → Rdc 1 c ∧ ((1 : Rat) = 0 → c = 0) := by
  rintro c (rfl | rfl)
  · exact ⟨⟨by decide, .inr (by decide +kernel)⟩, fun h => absurd h (by decide)⟩
  · exact ⟨⟨by decide, .inr (by decide +kernel)⟩, fun h => absurd h (by decide)⟩
theorem ex_32 {x : Rat} (h : Simp (Btw 0 1 2 0 1 3) x) : x = Rat.divInt 3 2 := by
  have hb : Btw 0 1 2 0 1 3 (Rat.divInt 3 2) := by
    unfold Btw
    rw [← two_eq (by decide), ← two_eq (by decide)]
    exact ⟨by decide +kernel, by decide +kernel⟩
  refine Simp.uniq (fun u v w => Btw.conv) h ⟨hb, fun z hz => ?_, fun q => absurd q (by decide +kernel)⟩
  have h1 : (1 : Rat) < z := v2_le0 (a := 0) (b := 1) (c := 2) (by rw [← two_eq (by decide)]; decide +kernel) hz.1
  have h2 : z < 2 := v2_ge0 (a := 0) (b := 1) (c := 3) hz.2 (by rw [← two_eq (by decide)]; decide +kernel)
  have h3 : (Rat.divInt 3 2).den = 2 := by decide +kernel
  rw [h3]
  rcases Nat.lt_or_ge z.den 2 with k | k
  · exfalso
    have e := den1 (x := z) (by have := z.den_pos; omega)
    rw [e] at h1 h2
    have a1 : (1 : Int) < z.num := by rw [← nu_1] at h1; exact_mod_cast h1
    have a2 : z.num < (2 : Int) := by rw [← nu_2] at h2; exact_mod_cast h2
    omega
  · exact k
theorem ex_b : cmpR 0 1 2 0 1 3 < 0 := by decide +kernel
theorem ex_z1 : ¬ 0 ≤ cmpR (Rat.divInt (-5) 2) 0 0 0 1 2 := by decide +kernel
theorem ex_z2 : two (Rat.divInt (-5) 2 - 0) 0 0 < 0 := by decide +kernel
theorem ex_z3 : 0 < two (0 - 0) 1 2 := by decide +kernel
theorem ex_q1 : quad (-3) 1 1 0 2 3 = 1 := by decide +kernel
theorem ex_q2 : quad 5 0 0 (-2) 2 3 = 1 := by decide +kernel
theorem ex_q3 : quad (25 - 4 - 1 - 2 * 2) (-2 * 2) (-2 * 2) (-2) 4 1 = 0 := by decide +kernel
theorem ex_e : cmpR 0 1 8 0 2 2 = 0 := by decide +kernel
end Go.PL

set_option linter.unusedSimpArgs false
set_option linter.unusedVariables false
set_option maxRecDepth 20000
namespace Go.Proofs.YtdojhoegildiaaaGreat
open Go Go.PL Go.RL
set_option maxHeartbeats 4000000 in
theorem c_radical_Sum_t (d p q r : Rat) [SzR d 2] [SzR p 2] [SzR q 2] [SzR r 2] (h : ¬ d < 0 ∧ ¬ p < 0 ∧ ¬ q < 0 ∧ ¬ r < 0) :
    Ret Tryz.prog 21 [.a (ratC d), .a (ratC p), .a (ratC q), .a (ratC r)] (.t [.c (.int .i64 (quad (d - p - q - r * r) (-2 * r) (-2 * r) (-2) p q)), .c (.int .i64 0)]) := by
  refine ret_of_body (md := {}) Tryz.func21 (by kernel_rfl) rfl ?_; simp only [Tryz.f21, go_sem, Nat.reduceAdd, Nat.reduceSub, List.reduceReplicate]; refine pwx_sr 4 [] (by rfl) fun _ K1 => ?_; simp (disch := omega) only [go_sem, nu_m2]; refine K1 _ ?_; clear K1; refine pwp_seq ?_; refine pwx_sr 1 [] (by rfl) fun _ K2 => ?_; simp (maxSteps := 3000000) (disch := omega) only [go_sem, nu_m2]; refine K2 _ ?_; clear K2; refine pwp_block ?_; refine pwp_loopF (false :: false :: false :: false :: true :: true :: true :: true :: true :: true :: false :: false :: false :: false :: false :: false :: false :: false :: true :: true :: true :: false :: false :: false :: false :: false :: false :: false :: false :: false :: false :: false :: false :: false :: false :: false :: false :: false :: false :: false :: false :: false :: false :: false :: false :: false :: false :: false :: []) 4 (fun M s => ∃ u : Nat, (u ≤ 4) ∧ (∀ i, i < u → ∀ x, [d, p, q, r][i]? = some x → ¬ x < 0) ∧ 4 - u = M ∧ s = { slots := .j :: .j :: .j :: .j :: .e (.c (.ptr 0 0)) :: .e (.c (.ptr 1 0)) :: .e (.c (.ptr 2 0)) :: .e (.c (.ptr 3 0)) :: .e (.c (.int .i64 0)) :: .e (.c (.int .i64 0)) :: .j :: .j :: .j :: .j :: .j :: .j :: .j :: .j :: .e (.c (.sl 4 (ratC d ++ (ratC p ++ (ratC q ++ ratC r))))) :: .e (.c (.int .i64 ((4 : Nat) : Int))) :: .e (.c (.int .i64 (u : Int))) :: .j :: .j :: .j :: .j :: .j :: .j :: .j :: .j :: .j :: .j :: .j :: .j :: .j :: .j :: .j :: .j :: .j :: .j :: .j :: .j :: .j :: .j :: .j :: .j :: .j :: .j :: .j :: [], st := [.live (ratC d), .live (ratC p), .live (ratC q), .live (ratC r)] }) (n := 4) rfl ?_ ?_ ?_
  · refine ⟨0, ?_, ?_, rfl, ?_⟩
    · omega
    · intro i hi; omega
    · first | rfl | simp [St.cut, keep]
  · refine ⟨rfl, ?_, ?_⟩ <;> first | rfl | (simp [keep, PV.lt, PE.lt, PC.lt, Box.lt, ↓lC_lt]; done) | simp [keep, PV.lt, PE.lt, PC.lt, Box.lt, ↓lC_lt, ↓intC_lt, ↓ratC_lt, ↓u32s_lt]
  · rintro _ _ ⟨u, hu, hk, rfl, rfl⟩
    refine pwx_sr 0 [] (by rfl) fun _ K3 => ?_; simp (disch := omega) only [go_sem, nu_m2]; refine K3 _ ?_; clear K3; refine pwp_seq ?_; refine pwp_cond (b := _) (by rfl) (fun hb0 => ?_) (fun hb0 => ?_)
    · replace hb0 := of_decide_eq_true hb0; obtain ⟨x, hx⟩ := get4 (d := d) (p := p) (q := q) (r := r) (show u < 4 by omega); have hix := @idx4 d p q r x u hx; refine pwp_skip ?_; refine n_then ?_; refine pwp_seq ?_; refine pwp_block ?_; refine pwx_sr 1 [] (by rfl) fun _ K4 => ?_; simp (disch := omega) only [go_sem, nu_m2, hix]; refine K4 _ ?_; clear K4; have hn := of4 h hx; refine pwx_sr 0 [] (by rfl) fun _ K5 => ?_; refine rgnX_take 2 fun _ K6 => ?_; simp (disch := omega) only [go_sem, nu_m2, hn, decide_false]; refine ⟨_, c_rational_Sign _, ?_⟩; refine K6 _ ?_; simp (disch := omega) only [go_sem, nu_m2, hn, decide_false]; refine K5 _ ?_; clear K6 K5; refine pwp_cond (b := false) (by rfl) (fun h => nomatch h) (fun _ => ?_); refine pwp_skip ?_; refine n_block ?_; refine n_then ?_; refine pwx_region 0 [] (by rfl) fun _ K7 => ?_; simp (disch := omega) only [go_sem, nu_m2]; refine K7 _ ?_; clear K7; refine n_then ?_; refine ⟨_, ?hdec, ⟨u + 1, ?hf0, ?hf1, rfl, ?heq⟩, ?hok⟩
      case heq => first | rfl | simp [St.cut, keep]
      case hf0 => omega
      case hf1 => exact step4 hk hx (by first | assumption | exact of4 h hx)
      case hdec => omega
      case hok => refine ⟨rfl, ?_, ?_⟩ <;> first | rfl | (simp [keep, PV.lt, PE.lt, PC.lt, Box.lt, ↓lC_lt]; done) | simp [keep, PV.lt, PE.lt, PC.lt, Box.lt, ↓lC_lt, ↓intC_lt, ↓ratC_lt, ↓u32s_lt]
    · replace hb0 := of_decide_eq_false hb0
      obtain rfl : u = 4 := by omega
      refine pwp_exit ?_; refine e_then ?_; refine e_then ?_; refine e_here ?_; refine n_then ?_; refine pwx_sd Tryz.mixed 1 [] (by rfl) [] (by kernel_rfl) (by simp) fun _ K8 => ?_; refine rgnX_take 3 fun _ K9 => ?_; simp (disch := omega) only [go_sem, nu_m2]; refine ⟨_, c_rational_Sub _ _ (by omega), ?_⟩; refine K9 _ ?_; refine rgnX_take 2 fun _ K10 => ?_; simp (disch := omega) only [go_sem, nu_m2]; refine ⟨_, c_rational_Sub _ _ (by omega), ?_⟩; refine K10 _ ?_; refine rgnX_take 3 fun _ K11 => ?_; simp (disch := omega) only [go_sem, nu_m2]; refine ⟨_, c_rational_Mul _ _ (by omega), ?_⟩; refine K11 _ ?_; refine rgnX_take 1 fun _ K12 => ?_; simp (disch := omega) only [go_sem, nu_m2]; refine ⟨_, c_rational_Sub _ _ (by omega), ?_⟩; refine K12 _ ?_; simp (disch := omega) only [go_sem, nu_m2]; refine K8 _ ?_; clear K12 K11 K10 K9 K8; refine pwx_sd Tryz.mixed 1 [] (by rfl) [] (by kernel_rfl) (by simp) fun _ K13 => ?_; refine rgnX_take 1 fun _ K14 => ?_; simp (disch := omega) only [go_sem, nu_m2]; refine ⟨_, c_rational_FromInt64 _ (by omega) (by omega), ?_⟩; refine K14 _ ?_; refine rgnX_take 2 fun _ K15 => ?_; simp (disch := omega) only [go_sem, nu_m2]; refine ⟨_, c_rational_Mul _ _ (by omega), ?_⟩; refine K15 _ ?_; simp (disch := omega) only [go_sem, nu_m2]; refine K13 _ ?_; clear K15 K14 K13; refine pwx_sd Tryz.mixed 0 [] (by rfl) [] (by kernel_rfl) (by simp) fun _ K16 => ?_; refine rgnX_take 4 fun _ K17 => ?_; simp (disch := omega) only [go_sem, nu_m2]; refine ⟨_, c_rational_FromInt64 _ (by omega) (by omega), ?_⟩; refine K17 _ ?_; refine rgnX_take 4 fun _ K18 => ?_; simp (disch := omega) only [go_sem, nu_m2]; refine ⟨_, c_radical_Sign _ _ _ _ _ _ (by omega), ?_⟩; refine K18 _ ?_; simp (disch := omega) only [go_sem, nu_m2]; refine K16 _ ?_; clear K18 K17 K16; refine pwp_ret ?_; refine ⟨Or.inr rfl, ?_⟩; simp (disch := omega) only [go_sem, nu_m2]
      all_goals first | exact ⟨rfl, rfl⟩ | rfl
set_option maxHeartbeats 4000000 in
theorem c_swarflaw05_root (x y : Int) (hx : -9223372036854775808 ≤ x) (hx' : x < 9223372036854775808) (hy : -9223372036854775808 ≤ y) (hy' : y < 9223372036854775808) :
    Ret Tryz.prog 35 [.c (.int .i64 x), .c (.int .i64 y)] (.e (.a (ratC (0) ++ (ratC ((x : Rat)) ++ ratC ((y : Rat)))))) := by
  refine ret_of_body (md := {}) Tryz.func35 (by kernel_rfl) rfl ?_; simp only [Tryz.f35, go_sem, Nat.reduceAdd, Nat.reduceSub, List.reduceReplicate]; refine pwx_sr 1 [] (by rfl) fun _ K1 => ?_; simp (disch := omega) only [go_sem, nu_0]; refine K1 _ ?_; clear K1; refine pwx_sr 0 [] (by rfl) fun _ K2 => ?_; refine rgnX_take 1 fun _ K3 => ?_; simp (disch := omega) only [go_sem, nu_0]; refine ⟨_, c_swarflaw05_num _ (by omega) (by omega), ?_⟩; refine K3 _ ?_; refine rgnX_take 2 fun _ K4 => ?_; simp (disch := omega) only [go_sem, nu_0]; refine ⟨_, c_swarflaw05_num _ (by omega) (by omega), ?_⟩; refine K4 _ ?_; refine rgnX_take 2 fun _ K5 => ?_; simp (disch := omega) only [go_sem, nu_0]; refine ⟨_, c_swarflaw05_num _ (by omega) (by omega), ?_⟩; refine K5 _ ?_; simp (disch := omega) only [go_sem, nu_0]; refine K2 _ ?_; clear K5 K4 K3 K2; refine pwp_ret ?_; refine ⟨Or.inr rfl, ?_⟩; simp (disch := omega) only [go_sem, nu_0]
  all_goals rfl
theorem ex_btw : Ret Tryz.prog 23 [.a (ratC (0) ++ (ratC (1) ++ ratC (2))), .a (ratC (0) ++ (ratC (1) ++ ratC (3)))] (.t [.a (ratC (Rat.divInt 3 2)), .c (.int .i64 0)]) := by
  haveI : SzR (0 : Rat) 2 := (inferInstance : SzR (0 : Rat) 1).mono (by omega)
  haveI : SzR (1 : Rat) 2 := (inferInstance : SzR (1 : Rat) 1).mono (by omega)
  haveI : SzR (2 : Rat) 2 := (inferInstance : SzR (2 : Rat) 1).mono (by omega)
  haveI : SzR (3 : Rat) 2 := (inferInstance : SzR (3 : Rat) 1).mono (by omega)
  obtain ⟨r1, z1⟩ := ex_rdc 2 (.inl rfl)
  obtain ⟨r2, z2⟩ := ex_rdc 3 (.inr rfl)
  obtain ⟨x, _, hx, hp, _⟩ := betweens r1 r2 z1 z2 ex_b
  rw [ex_32 hx] at hp
  exact hp
theorem ex_zero : Ret Tryz.prog 23 [.a (ratC (Rat.divInt (-5) 2) ++ (ratC (0) ++ ratC (0))), .a (ratC (0) ++ (ratC (1) ++ ratC (2)))] (.t [.a (ratC 0), .c (.int .i64 0)]) := by
  haveI : SzR (0 : Rat) 2 := (inferInstance : SzR (0 : Rat) 1).mono (by omega)
  haveI : SzR (1 : Rat) 2 := (inferInstance : SzR (1 : Rat) 1).mono (by omega)
  haveI : SzR (2 : Rat) 2 := (inferInstance : SzR (2 : Rat) 1).mono (by omega)
  haveI : SzR (Rat.divInt (-5) 2) 2 := ⟨szi_lit (by decide +kernel), szi_lit (by decide +kernel)⟩
  exact c_Between_1 _ _ _ _ _ _ (by decide) (by decide) ex_z1 ex_z2 ex_z3
theorem ex_sum : Ret Tryz.prog 21 [.a (ratC 25), .a (ratC 4), .a (ratC 1), .a (ratC 2)] (.t [.c (.int .i64 0), .c (.int .i64 0)]) := by
  haveI : SzR (25 : Rat) 2 := (inferInstance : SzR (25 : Rat) 1).mono (by omega)
  haveI : SzR (4 : Rat) 2 := (inferInstance : SzR (4 : Rat) 1).mono (by omega)
  haveI : SzR (1 : Rat) 2 := (inferInstance : SzR (1 : Rat) 1).mono (by omega)
  haveI : SzR (2 : Rat) 2 := (inferInstance : SzR (2 : Rat) 1).mono (by omega)
  have h := c_radical_Sum_t 25 4 1 2 (by decide)
  rw [ex_q3] at h
  exact h
set_option maxHeartbeats 4000000 in
theorem c_swarflaw05_awake :
    Ret Tryz.prog 10 [] (.e (.c (.bool true))) := by
  refine ret_of_body (md := {}) Tryz.func10 (by kernel_rfl) rfl ?_; simp only [Tryz.f10, go_sem, Nat.reduceAdd, Nat.reduceSub, List.reduceReplicate]; haveI : SzR (Rat.divInt 3 2) 2 := ⟨szi_lit (by decide +kernel), szi_lit (by decide +kernel)⟩; refine pwx_sr 0 [] (by rfl) fun _ K1 => ?_; simp (disch := omega) only [go_sem, nu_0, nu_1, nu_2, nu_3, nu_4, nu_5, nu_8, nu_25, nu_m2, nu_m3, eq_self, ex_q1, ex_q2, ex_e]; refine K1 _ ?_; clear K1; refine pwx_sr 0 [] (by rfl) fun _ K2 => ?_; refine rgnX_take 1 fun _ K3 => ?_; simp (disch := omega) only [go_sem, nu_0, nu_1, nu_2, nu_3, nu_4, nu_5, nu_8, nu_25, nu_m2, nu_m3, eq_self, ex_q1, ex_q2, ex_e]; refine ⟨_, c_swarflaw05_num _ (by omega) (by omega), ?_⟩; refine K3 _ ?_; refine rgnX_take 1 fun _ K4 => ?_; simp (disch := omega) only [go_sem, nu_0, nu_1, nu_2, nu_3, nu_4, nu_5, nu_8, nu_25, nu_m2, nu_m3, eq_self, ex_q1, ex_q2, ex_e]; refine ⟨_, c_swarflaw05_num _ (by omega) (by omega), ?_⟩; refine K4 _ ?_; refine rgnX_take 1 fun _ K5 => ?_; simp (disch := omega) only [go_sem, nu_0, nu_1, nu_2, nu_3, nu_4, nu_5, nu_8, nu_25, nu_m2, nu_m3, eq_self, ex_q1, ex_q2, ex_e]; refine ⟨_, c_swarflaw05_num _ (by omega) (by omega), ?_⟩; refine K5 _ ?_; refine rgnX_take 1 fun _ K6 => ?_; simp (disch := omega) only [go_sem, nu_0, nu_1, nu_2, nu_3, nu_4, nu_5, nu_8, nu_25, nu_m2, nu_m3, eq_self, ex_q1, ex_q2, ex_e]; refine ⟨_, c_swarflaw05_num _ (by omega) (by omega), ?_⟩; refine K6 _ ?_; refine rgnX_take 1 fun _ K7 => ?_; simp (disch := omega) only [go_sem, nu_0, nu_1, nu_2, nu_3, nu_4, nu_5, nu_8, nu_25, nu_m2, nu_m3, eq_self, ex_q1, ex_q2, ex_e]; refine ⟨_, ex_sum, ?_⟩; refine K7 _ ?_; simp (disch := omega) only [go_sem, nu_0, nu_1, nu_2, nu_3, nu_4, nu_5, nu_8, nu_25, nu_m2, nu_m3, eq_self, ex_q1, ex_q2, ex_e]; refine K2 _ ?_; clear K7 K6 K5 K4 K3 K2; refine pwx_sr 1 [] (by rfl) fun _ K8 => ?_; refine rgnX_take 1 fun _ K9 => ?_; simp (disch := omega) only [go_sem, nu_0, nu_1, nu_2, nu_3, nu_4, nu_5, nu_8, nu_25, nu_m2, nu_m3, eq_self, ex_q1, ex_q2, ex_e]; refine ⟨_, c_swarflaw05_root _ _ (by omega) (by omega) (by omega) (by omega), ?_⟩; refine K9 _ ?_; refine rgnX_take 1 fun _ K10 => ?_; simp (disch := omega) only [go_sem, nu_0, nu_1, nu_2, nu_3, nu_4, nu_5, nu_8, nu_25, nu_m2, nu_m3, eq_self, ex_q1, ex_q2, ex_e]; refine ⟨_, c_swarflaw05_root _ _ (by omega) (by omega) (by omega) (by omega), ?_⟩; refine K10 _ ?_; refine rgnX_take 1 fun _ K11 => ?_; simp (disch := omega) only [go_sem, nu_0, nu_1, nu_2, nu_3, nu_4, nu_5, nu_8, nu_25, nu_m2, nu_m3, eq_self, ex_q1, ex_q2, ex_e]; refine ⟨_, ex_btw, ?_⟩; refine K11 _ ?_; simp (disch := omega) only [go_sem, nu_0, nu_1, nu_2, nu_3, nu_4, nu_5, nu_8, nu_25, nu_m2, nu_m3, eq_self, ex_q1, ex_q2, ex_e]; refine K8 _ ?_; clear K11 K10 K9 K8; refine pwx_sr 1 [] (by rfl) fun _ K12 => ?_; refine rgnX_take 1 fun _ K13 => ?_; simp (disch := omega) only [go_sem, nu_0, nu_1, nu_2, nu_3, nu_4, nu_5, nu_8, nu_25, nu_m2, nu_m3, eq_self, ex_q1, ex_q2, ex_e]; refine ⟨_, c_swarfref02_Frac _ _ (by omega) (by omega) (by omega) (by omega) (by omega), ?_⟩; refine K13 _ ?_; refine rgnX_take 1 fun _ K14 => ?_; simp (disch := omega) only [go_sem, nu_0, nu_1, nu_2, nu_3, nu_4, nu_5, nu_8, nu_25, nu_m2, nu_m3, eq_self, ex_q1, ex_q2, ex_e]; refine ⟨_, c_swarflaw05_num _ (by omega) (by omega), ?_⟩; refine K14 _ ?_; refine rgnX_take 1 fun _ K15 => ?_; simp (disch := omega) only [go_sem, nu_0, nu_1, nu_2, nu_3, nu_4, nu_5, nu_8, nu_25, nu_m2, nu_m3, eq_self, ex_q1, ex_q2, ex_e]; refine ⟨_, c_swarflaw05_num _ (by omega) (by omega), ?_⟩; refine K15 _ ?_; refine rgnX_take 2 fun _ K16 => ?_; simp (disch := omega) only [go_sem, nu_0, nu_1, nu_2, nu_3, nu_4, nu_5, nu_8, nu_25, nu_m2, nu_m3, eq_self, ex_q1, ex_q2, ex_e]; refine ⟨_, c_swarflaw05_root _ _ (by omega) (by omega) (by omega) (by omega), ?_⟩; refine K16 _ ?_; refine rgnX_take 1 fun _ K17 => ?_; simp (disch := omega) only [go_sem, nu_0, nu_1, nu_2, nu_3, nu_4, nu_5, nu_8, nu_25, nu_m2, nu_m3, eq_self, ex_q1, ex_q2, ex_e]; refine ⟨_, ex_zero, ?_⟩; refine K17 _ ?_; simp (disch := omega) only [go_sem, nu_0, nu_1, nu_2, nu_3, nu_4, nu_5, nu_8, nu_25, nu_m2, nu_m3, eq_self, ex_q1, ex_q2, ex_e]; refine K12 _ ?_; clear K17 K16 K15 K14 K13 K12; refine pwx_sd Tryz.mixed 0 [some 30, some 31, some 32, some 33, some 34, some 35, some 36, some 37, some 38, some 39, some 40, some 41, some 42, some 43, some 44, some 45, some 46, some 47, some 48, some 49, some 50, some 51, some 52, some 53, some 54, some 55, some 56, some 57, some 58, some 59, some 60, some 61, some 62, some 63, some 64, some 65, some 66, some 67, some 68, some 69, some 70, some 71, some 72, some 73, some 74, some 75, some 76, some 77, some 78, some 79, some 80, some 0] (by rfl) [] (by kernel_rfl) (by simp) fun _ K18 => ?_; refine rgnX_take 1 fun _ K19 => ?_; simp (disch := omega) only [go_sem, nu_0, nu_1, nu_2, nu_3, nu_4, nu_5, nu_8, nu_25, nu_m2, nu_m3, eq_self, ex_q1, ex_q2, ex_e]; refine ⟨_, c_swarflaw05_num _ (by omega) (by omega), ?_⟩; refine K19 _ ?_; refine rgnX_take 1 fun _ K20 => ?_; simp (disch := omega) only [go_sem, nu_0, nu_1, nu_2, nu_3, nu_4, nu_5, nu_8, nu_25, nu_m2, nu_m3, eq_self, ex_q1, ex_q2, ex_e]; refine ⟨_, c_swarflaw05_num _ (by omega) (by omega), ?_⟩; refine K20 _ ?_; refine rgnX_take 1 fun _ K21 => ?_; simp (disch := omega) only [go_sem, nu_0, nu_1, nu_2, nu_3, nu_4, nu_5, nu_8, nu_25, nu_m2, nu_m3, eq_self, ex_q1, ex_q2, ex_e]; refine ⟨_, c_swarflaw05_num _ (by omega) (by omega), ?_⟩; refine K21 _ ?_; refine rgnX_take 1 fun _ K22 => ?_; simp (disch := omega) only [go_sem, nu_0, nu_1, nu_2, nu_3, nu_4, nu_5, nu_8, nu_25, nu_m2, nu_m3, eq_self, ex_q1, ex_q2, ex_e]; refine ⟨_, c_swarflaw05_num _ (by omega) (by omega), ?_⟩; refine K22 _ ?_; refine rgnX_take 1 fun _ K23 => ?_; simp (disch := omega) only [go_sem, nu_0, nu_1, nu_2, nu_3, nu_4, nu_5, nu_8, nu_25, nu_m2, nu_m3, eq_self, ex_q1, ex_q2, ex_e]; refine ⟨_, c_swarflaw05_num _ (by omega) (by omega), ?_⟩; refine K23 _ ?_; refine rgnX_take 1 fun _ K24 => ?_; simp (disch := omega) only [go_sem, nu_0, nu_1, nu_2, nu_3, nu_4, nu_5, nu_8, nu_25, nu_m2, nu_m3, eq_self, ex_q1, ex_q2, ex_e]; refine ⟨_, c_swarflaw05_num _ (by omega) (by omega), ?_⟩; refine K24 _ ?_; refine rgnX_take 2 fun _ K25 => ?_; simp (disch := omega) only [go_sem, nu_0, nu_1, nu_2, nu_3, nu_4, nu_5, nu_8, nu_25, nu_m2, nu_m3, eq_self, ex_q1, ex_q2, ex_e]; refine ⟨_, c_radical_Sign _ _ _ _ _ _ (by omega), ?_⟩; refine K25 _ ?_; refine rgnX_take 3 fun _ K26 => ?_; simp (disch := omega) only [go_sem, nu_0, nu_1, nu_2, nu_3, nu_4, nu_5, nu_8, nu_25, nu_m2, nu_m3, eq_self, ex_q1, ex_q2, ex_e]
  first | refine ⟨_, c_swarflaw05_num _ (by omega) (by omega), ?_⟩ | skip
  refine K26 _ ?_; refine rgnX_take 1 fun _ K27 => ?_; simp (disch := omega) only [go_sem, nu_0, nu_1, nu_2, nu_3, nu_4, nu_5, nu_8, nu_25, nu_m2, nu_m3, eq_self, ex_q1, ex_q2, ex_e]
  first | refine ⟨_, c_swarflaw05_num _ (by omega) (by omega), ?_⟩ | skip
  refine K27 _ ?_; refine rgnX_take 1 fun _ K28 => ?_; simp (disch := omega) only [go_sem, nu_0, nu_1, nu_2, nu_3, nu_4, nu_5, nu_8, nu_25, nu_m2, nu_m3, eq_self, ex_q1, ex_q2, ex_e]
  first | refine ⟨_, c_swarflaw05_num _ (by omega) (by omega), ?_⟩ | skip
  refine K28 _ ?_; refine rgnX_take 1 fun _ K29 => ?_; simp (disch := omega) only [go_sem, nu_0, nu_1, nu_2, nu_3, nu_4, nu_5, nu_8, nu_25, nu_m2, nu_m3, eq_self, ex_q1, ex_q2, ex_e]
  first | refine ⟨_, c_swarflaw05_num _ (by omega) (by omega), ?_⟩ | skip
  refine K29 _ ?_; refine rgnX_take 1 fun _ K30 => ?_; simp (disch := omega) only [go_sem, nu_0, nu_1, nu_2, nu_3, nu_4, nu_5, nu_8, nu_25, nu_m2, nu_m3, eq_self, ex_q1, ex_q2, ex_e]
  first | refine ⟨_, c_swarflaw05_num _ (by omega) (by omega), ?_⟩ | skip
  refine K30 _ ?_; refine rgnX_take 1 fun _ K31 => ?_; simp (disch := omega) only [go_sem, nu_0, nu_1, nu_2, nu_3, nu_4, nu_5, nu_8, nu_25, nu_m2, nu_m3, eq_self, ex_q1, ex_q2, ex_e]
  first | refine ⟨_, c_swarflaw05_num _ (by omega) (by omega), ?_⟩ | skip
  refine K31 _ ?_; refine rgnX_take 2 fun _ K32 => ?_; simp (disch := omega) only [go_sem, nu_0, nu_1, nu_2, nu_3, nu_4, nu_5, nu_8, nu_25, nu_m2, nu_m3, eq_self, ex_q1, ex_q2, ex_e]
  first | refine ⟨_, c_radical_Sign _ _ _ _ _ _ (by omega), ?_⟩ | skip
  refine K32 _ ?_; refine rgnX_take 4 fun _ K33 => ?_; simp (disch := omega) only [go_sem, nu_0, nu_1, nu_2, nu_3, nu_4, nu_5, nu_8, nu_25, nu_m2, nu_m3, eq_self, ex_q1, ex_q2, ex_e]
  first | refine ⟨_, c_swarflaw05_root _ _ (by omega) (by omega) (by omega) (by omega), ?_⟩ | skip
  refine K33 _ ?_; refine rgnX_take 1 fun _ K34 => ?_; simp (disch := omega) only [go_sem, nu_0, nu_1, nu_2, nu_3, nu_4, nu_5, nu_8, nu_25, nu_m2, nu_m3, eq_self, ex_q1, ex_q2, ex_e]
  first | refine ⟨_, c_swarflaw05_root _ _ (by omega) (by omega) (by omega) (by omega), ?_⟩ | skip
  refine K34 _ ?_; refine rgnX_take 1 fun _ K35 => ?_; simp (disch := omega) only [go_sem, nu_0, nu_1, nu_2, nu_3, nu_4, nu_5, nu_8, nu_25, nu_m2, nu_m3, eq_self, ex_q1, ex_q2, ex_e]
  first | refine ⟨_, c_radical_Equal _ _ _ _ _ _ (by omega) (by decide) (by decide), ?_⟩ | skip
  refine K35 _ ?_; refine rgnX_take 12 fun _ K36 => ?_; simp (disch := omega) only [go_sem, nu_0, nu_1, nu_2, nu_3, nu_4, nu_5, nu_8, nu_25, nu_m2, nu_m3, eq_self, ex_q1, ex_q2, ex_e]
  first | refine ⟨_, c_swarfref02_Frac _ _ (by omega) (by omega) (by omega) (by omega) (by omega), ?_⟩ | skip
  refine K36 _ ?_; refine rgnX_take 1 fun _ K37 => ?_; simp (disch := omega) only [go_sem, nu_0, nu_1, nu_2, nu_3, nu_4, nu_5, nu_8, nu_25, nu_m2, nu_m3, eq_self, ex_q1, ex_q2, ex_e]
  first | refine ⟨_, c_swarfref02_Same4 _ _ _ _ (by omega), ?_⟩ | skip
  refine K37 _ ?_; refine rgnX_take 8 fun _ K38 => ?_; simp (disch := omega) only [go_sem, nu_0, nu_1, nu_2, nu_3, nu_4, nu_5, nu_8, nu_25, nu_m2, nu_m3, eq_self, ex_q1, ex_q2, ex_e]
  first | refine ⟨_, c_swarflaw05_num _ (by omega) (by omega), ?_⟩ | skip
  refine K38 _ ?_; refine rgnX_take 1 fun _ K39 => ?_; simp (disch := omega) only [go_sem, nu_0, nu_1, nu_2, nu_3, nu_4, nu_5, nu_8, nu_25, nu_m2, nu_m3, eq_self, ex_q1, ex_q2, ex_e]
  first | refine ⟨_, c_swarfref02_Same4 _ _ _ _ (by omega), ?_⟩ | skip
  refine K39 _ ?_; simp (disch := omega) only [go_sem, nu_0, nu_1, nu_2, nu_3, nu_4, nu_5, nu_8, nu_25, nu_m2, nu_m3, eq_self, ex_q1, ex_q2, ex_e]; refine K18 _ ?_; clear K39 K38 K37 K36 K35 K34 K33 K32 K31 K30 K29 K28 K27 K26 K25 K24 K23 K22 K21 K20 K19 K18; refine pwp_ret ?_; refine ⟨Or.inr rfl, ?_⟩; simp (disch := omega) only [go_sem, nu_0, nu_1, nu_2, nu_3, nu_4, nu_5, nu_8, nu_25, nu_m2, nu_m3, eq_self, ex_q1, ex_q2, ex_e]
  all_goals first | rfl | decide

end Go.Proofs.YtdojhoegildiaaaGreat

set_option linter.unusedSimpArgs false
namespace Go.PL
open Go.ChangeShapes Go.WideShapes Go.RowKit

def GW (w : World) : GMem := fun b o => w.cell? ⟨b, o, none⟩
theorem GW_agree (w : World) : Agree (GW w) w := fun _ _ _ h => h
def Spot (v : Value) : Prop := ∀ a len cap, v = .slice (some a) len cap → a.spot = none

section
variable {H : Type} {enc : TypeId × Value → H} {P : Program} {w : World} {base : Nat} {spare : Nat → Bool} {held : Bool} {fuel : Nat} {t : TypeId} {cs : List Value} {x : DataW H × List MemPlace}

theorem op_bool (ht : P.underlying t = some .bool) (h : DataW.trod enc P w base spare held fuel t cs = some x) : ∃ b, All2 (IRep (GW w)) cs [.bool b] := by
  obtain ⟨b, rfl, _⟩ := DataW.trod_bool ht h
  exact ⟨b, .cons (.bool b) .nil⟩
theorem wf_u32 {n : Int} (h : (Lit.int .u32 n).wf = true) : 0 ≤ n ∧ n < 4294967296 := by
  simp only [Lit.wf, Bool.and_eq_true, decide_eq_true_eq] at h
  obtain ⟨h1, h2⟩ := h
  have e1 : IntKind.u32.min = 0 := by decide
  have e2 : IntKind.u32.max = 4294967295 := by decide
  rw [e1] at h1; rw [e2] at h2
  exact ⟨h1, by omega⟩
theorem op_u32s {e : TypeId} (ht : P.underlying t = some (.slice e)) (he : P.underlying e = some (.int .u32)) (hc : P.cellsOf e = 1) (hs : ∀ v ∈ cs, Spot v)
    (h : DataW.trod enc P w base spare held fuel t cs = some x) : ∃ l : List Nat, All2 (IRep (GW w)) cs [lC l] := by
  rcases open_ints ht he hc h with ⟨rfl, _⟩ | ⟨a, len, cap, zs, rfl, _, hl, _, hz, _, hcell, hw⟩
  · exact ⟨[], .cons .nil .nil⟩
  · have hsp : a.spot = none := hs _ (by simp) a len cap rfl
    have hlen : len ≤ zs.length := by rw [hz]; split <;> omega
    obtain ⟨b, off, sp⟩ := a
    simp only at hsp
    subst hsp
    refine ⟨(zs.take len).map Int.toNat, .cons ?_ .nil⟩
    rw [lC_eq]
    have hll : ((zs.take len).map Int.toNat).length = len := by simp; omega
    rw [hll]
    have hadd : ∀ i, (⟨b, off, none⟩ : Addr).add i = ⟨b, off + i, none⟩ := fun i => by
      unfold Addr.add
      split
      · rename_i h0; rw [h0]; rfl
      · rfl
    have key : ∀ i, i < len → zs.getD i 0 = (((zs.getD i 0).toNat : Nat) : Int) := fun i hi => by
      have hm : zs.getD i 0 ∈ zs := by
        rw [List.getD_eq_getElem?_getD, List.getElem?_eq_getElem (show i < zs.length by omega)]
        exact List.getElem_mem _
      have := wf_u32 (hw _ hm)
      omega
    refine .sl b off len cap _ (fun i => .int .u32 (zs.getD i 0)) hl (fun i hi => ?_) (fun i hi => ?_)
    · simp only [u32s, List.length_map, List.length_take] at hi
      have := hcell i (by omega)
      rw [hadd] at this
      exact this
    · simp only [u32s, List.length_map, List.length_take] at hi
      have hg : (u32s ((zs.take len).map Int.toNat))[i]'(by simpa [u32s] using hi) = .int .u32 (zs.getD i 0) := by
        rw [key i (by omega)]
        simp [u32s, List.getD_eq_getElem?_getD, List.getElem?_eq_getElem (show i < zs.length by omega)]
      rw [hg]
      exact .int _ _
theorem op_piece {R : Value → PC → Prop} {off n m : Nat} {A B : List PC} (hm : off + n = m) (h1 : All2 R ((cs.drop off).take n) A) (h2 : All2 R (cs.drop m) B) : All2 R (cs.drop off) (A ++ B) := by
  have := h1.append h2
  rw [← hm, ← List.drop_drop, List.take_append_drop] at this
  exact this
theorem op_end {R : Value → PC → Prop} {n : Nat} (h : cs.length = n) : All2 R (cs.drop n) [] := by
  rw [← h, List.drop_length]; exact .nil
theorem op_field {fs : Array Field} (ht : P.underlying t = some (.struct fs)) (h : DataW.trod enc P w base spare held fuel t cs = some x) {i : Nat} {f : Field} (hi : fs[i]? = some f) {n : Nat} (hn : P.cellsOf f.type = n) :
    ∃ fuel' y, DataW.trod enc P w base spare held fuel' f.type ((cs.drop f.offset).take n) = some y := by
  obtain ⟨xs, m, _, _, _, hlen, hf⟩ := DataW.trod_struct ht h
  have hlt : i < xs.length := by
    rw [hlen]
    rcases Nat.lt_or_ge i fs.size with c | c
    · exact c
    · rw [Array.getElem?_eq_none c] at hi; cases hi
  have := hf i f hi
  rw [List.getElem?_eq_getElem hlt, hn] at this
  exact ⟨m, _, this⟩
theorem op_len {fs : Array Field} (ht : P.underlying t = some (.struct fs)) (h : DataW.trod enc P w base spare held fuel t cs = some x) {n : Nat} (hn : P.cellsOf t = n) : cs.length = n := by
  obtain ⟨xs, m, _, _, hl, _, _⟩ := DataW.trod_struct ht h
  rw [hl, hn]
end

theorem law_true {P : Program} {f : FuncId} {args : List PE} (h : Ret P f args (.e (.c (.bool true)))) {w : World} {vs : Array Value} (hv : All2 (RepE (GW w) (fun _ => 0) (fun _ => False)) vs.toList args) :
    Calls P f vs w fun e w' => e = .returned (.bool true) ∧ Below w.heap.size w w' := by
  refine (h.2 (GW w) w vs (GW_agree w) hv).mono ?_
  rintro e w' ⟨v, G', rfl, hr, _, _, _, hb⟩
  have hr' : IRep G' v (.bool true) := hr
  cases hr'
  exact ⟨rfl, hb⟩
end Go.PL

set_option linter.unusedSimpArgs false
set_option linter.unusedVariables false
namespace Go.PL
open Go.ChangeShapes Go.WideShapes Go.RowKit
section
variable {H : Type} {enc : TypeId × Value → H} {P : Program} {w : World} {base : Nat} {spare : Nat → Bool} {held : Bool} {fuel : Nat} {t : TypeId} {cs : List Value} {x : DataW H × List MemPlace}
theorem add_add0 (b off i j : Nat) : ((⟨b, off, none⟩ : Addr).add i).add j = ⟨b, off + (i + j), none⟩ := by
  have h : ∀ o k, (⟨b, o, none⟩ : Addr).add k = ⟨b, o + k, none⟩ := fun o k => by
    unfold Addr.add
    split
    · rename_i h0; rw [h0]; rfl
    · rfl
  rw [h, h, Nat.add_assoc]
theorem add_spot {a : Addr} {i : Nat} (hi : i = 0) (h : (a.add i).spot = none) : a.spot = none := by
  subst hi; exact h
theorem op_u32z {e : TypeId} (ht : P.underlying t = some (.slice e)) (he : P.underlying e = some (.int .u32)) (hc : P.cellsOf e = 1) (hs : ∀ b, spare b = true)
    (h : DataW.trod enc P w base spare held fuel t cs = some x) : ∃ l : List Nat, All2 (IRep (GW w)) cs [lC l] := by
  have h' := h
  rcases open_ints ht he hc h with ⟨rfl, _⟩ | ⟨a, len, cap, zs, rfl, _, hl, _, hz, _, hcell, hw⟩
  · exact ⟨[], .cons .nil .nil⟩
  · rw [if_pos (hs _)] at hz
    by_cases h0 : cap = 0
    · subst h0
      obtain rfl : len = 0 := by omega
      exact ⟨[], .cons (.slz a) .nil⟩
    · refine op_u32s ht he hc (fun v hv a' l' c' e => ?_) h'
      rw [List.mem_singleton] at hv
      subst hv
      cases e
      exact add_spot rfl (World.cell?_spot (hcell 0 (by omega)))
theorem op_sl {e : TypeId} {s : Nat} {X : Type} {f : X → List PC} (ht : P.underlying t = some (.slice e)) (hc : P.cellsOf e = s) (hs0 : 0 < s) (hf : ∀ x, (f x).length = s) (hs : ∀ b, spare b = true)
    (hop : ∀ {fuel' : Nat} {ds : List Value} {y : DataW H × List MemPlace}, DataW.trod enc P w base spare held fuel' e ds = some y → ∃ x, All2 (IRep (GW w)) ds (f x))
    (h : DataW.trod enc P w base spare held fuel t cs = some x) : ∃ E : List X, All2 (IRep (GW w)) cs [.sl E.length (E.map f).flatten] := by
  rcases DataW.trod_slice ht h with ⟨rfl, _⟩ | ⟨a, len, cap, elems, rest, n, _, rfl, _, hb, hl, hm, hlen, hel, hsp, _⟩
  · exact ⟨[], .cons .nil .nil⟩
  obtain ⟨hrl, hr⟩ := hsp (hs _)
  rw [hc] at hel hr
  have some_at : ∀ {i : Nat} {y : DataW H × List MemPlace}, (w.cells? base (a.add (i * s)) s).bind (DataW.trod enc P w base spare held n e) = some y → ∃ ds, w.cells? base (a.add (i * s)) s = some ds ∧ DataW.trod enc P w base spare held n e ds = some y := fun {i y} hh => by
    rw [Option.bind_eq_some_iff] at hh
    exact hh
  by_cases h0 : cap = 0
  · subst h0
    obtain rfl : len = 0 := by omega
    exact ⟨[], .cons (.slz a) .nil⟩
  have hspot : a.spot = none := by
    by_cases hl0 : 0 < len
    · obtain ⟨ds, h1, _⟩ := some_at (i := 0) (y := elems[0]'(by omega)) (by rw [hel 0 hl0, List.getElem?_eq_getElem (by omega)])
      have h2 := (World.cells?_some h1).2.2 0 hs0
      have h3 : 0 < ds.length := by rw [(World.cells?_some h1).2.1]; exact hs0
      rw [List.getElem?_eq_getElem h3] at h2
      exact add_spot (Nat.zero_mul s) (add_spot rfl (World.cell?_spot h2))
    · have hl' : 0 < cap - len := by omega
      obtain ⟨ds, h1, _⟩ := some_at (i := len + 0) (y := rest[0]'(by omega)) (by rw [hr 0 hl', List.getElem?_eq_getElem (by omega)])
      have h2 := (World.cells?_some h1).2.2 0 hs0
      have h3 : 0 < ds.length := by rw [(World.cells?_some h1).2.1]; exact hs0
      rw [List.getElem?_eq_getElem h3] at h2
      exact add_spot (by rw [show len = 0 by omega]; exact Nat.zero_mul s) (add_spot rfl (World.cell?_spot h2))
  obtain ⟨b, off, sp⟩ := a
  simp only at hspot
  subst hspot
  have each : ∀ i : Fin len, ∃ x, ∃ ds, w.cells? base ((⟨b, off, none⟩ : Addr).add (i * s)) s = some ds ∧ All2 (IRep (GW w)) ds (f x) := fun i => by
    obtain ⟨ds, h1, h2⟩ := some_at (i := i) (y := elems[i.1]'(by omega)) (by rw [hel i i.2, List.getElem?_eq_getElem (by omega)])
    obtain ⟨x, hx⟩ := hop h2
    exact ⟨x, ds, h1, hx⟩
  obtain ⟨E, hE⟩ := Classical.skolem.1 each
  have hfl : ∀ x ∈ (List.ofFn E).map f, x.length = s := fun x hx => by
    obtain ⟨y, _, rfl⟩ := List.mem_map.1 hx
    exact hf y
  have hL : ((List.ofFn E).map f).flatten.length = len * s := by
    rw [List.length_flatten]
    have : ((List.ofFn E).map f).map List.length = List.replicate len s := by
      rw [List.eq_replicate_iff]
      refine ⟨by simp, fun b hb => ?_⟩
      obtain ⟨y, hy, rfl⟩ := List.mem_map.1 hb
      exact hfl y hy
    rw [this]; simp
  have at' : ∀ j, j < len * s → ∃ v, w.cell? ⟨b, off + j, none⟩ = some v ∧ ∀ p, ((List.ofFn E).map f).flatten[j]? = some p → IRep (GW w) v p := fun j hj => by
    have hi : j / s < len := Nat.div_lt_of_lt_mul (by rw [Nat.mul_comm]; exact hj)
    have hr' : j % s < s := Nat.mod_lt _ hs0
    have hjs : j / s * s + j % s = j := by rw [Nat.mul_comm]; exact Nat.div_add_mod j s
    obtain ⟨ds, h1, h2⟩ := hE ⟨j / s, hi⟩
    have h3 := (World.cells?_some h1).2.2 (j % s) hr'
    have h4 : ds.length = s := (World.cells?_some h1).2.1
    rw [add_add0, hjs, List.getElem?_eq_getElem (by omega)] at h3
    refine ⟨_, h3, fun p hp => ?_⟩
    have hx : ((List.ofFn E).map f)[j / s]? = some (f (E ⟨j / s, hi⟩)) := by simp [List.getElem?_ofFn, hi]
    have hd := flat_drop hfl hx
    have hp' : (f (E ⟨j / s, hi⟩))[j % s]? = some p := by
      rw [← hd, List.getElem?_take_of_lt hr', List.getElem?_drop, hjs]
      exact hp
    obtain ⟨u, hu1, hu2⟩ := h2.get _ _ hp'
    rw [List.getElem?_eq_getElem (show j % s < ds.length by omega), Option.some.injEq] at hu1
    rw [hu1]; exact hu2
  refine ⟨List.ofFn E, .cons ?_ .nil⟩
  have := IRep.sl (G := GW w) b off len cap ((List.ofFn E).map f).flatten (fun j => (w.cell? ⟨b, off + j, none⟩).getD .nilFunc) hl (fun j hj => ?_) (fun j hj => ?_)
  · simpa using this
  · obtain ⟨v, h1, _⟩ := at' j (by rw [← hL]; exact hj)
    show w.cell? _ = _
    rw [h1]; rfl
  · obtain ⟨v, h1, h2⟩ := at' j (by rw [← hL]; exact hj)
    rw [h1]
    exact h2 _ (List.getElem?_eq_getElem hj)
theorem sc_sl {G : GMem} {a : Option Addr} {l c : Nat} {p : PC} (h : All2 (IRep G) (Value.slice a l c).cells.toList [p]) : RepE G (fun _ => 0) (fun _ => False) (.slice a l c) (.c p) := by
  have h' : All2 (IRep G) [Value.slice a l c] [p] := h
  cases h' with
  | cons q _ => exact RepC.of_irep q
end
end Go.PL

set_option linter.unusedSimpArgs false
set_option linter.unusedVariables false
set_option maxRecDepth 20000
namespace Go.Proofs.YtdojhoegildiaaaGreat
open Go Go.PL
open Go.ChangeShapes Go.WideShapes Go.RowKit
theorem op24 {H : Type} {enc : TypeId × Value → H} {w : World} {base : Nat} {spare : Nat → Bool} {held : Bool} {fuel : Nat} {cs : List Value} {x : DataW H × List MemPlace} (h : DataW.trod enc Tryz.prog w base spare held fuel 24 cs = some x) (hs : ∀ b, spare b = true) :
    ∃ c0 : Bool, ∃ c1 : List Nat, All2 (IRep (GW w)) cs [.bool c0, lC c1] := by
  obtain ⟨f0, y0, h0⟩ := op_field Tryz.underlying24 h (i := 0) rfl (n := 1) (by kernel_rfl)
  obtain ⟨c0, r0⟩ := op_bool Tryz.underlying4 h0
  obtain ⟨f1, y1, h1⟩ := op_field Tryz.underlying24 h (i := 1) rfl (n := 1) (by kernel_rfl)
  obtain ⟨c1, r1⟩ := op_u32z Tryz.underlying22 Tryz.underlying118 (by kernel_rfl) hs h1
  have r := op_piece (off := 0) rfl r0 (op_piece (off := 1) rfl r1 (op_end (op_len Tryz.underlying24 h (by kernel_rfl))))
  exact ⟨c0, c1, r⟩

theorem op26 {H : Type} {enc : TypeId × Value → H} {w : World} {base : Nat} {spare : Nat → Bool} {held : Bool} {fuel : Nat} {cs : List Value} {x : DataW H × List MemPlace} (h : DataW.trod enc Tryz.prog w base spare held fuel 26 cs = some x) (hs : ∀ b, spare b = true) :
    ∃ c0 : Bool, ∃ c1 : List Nat, ∃ c2 : Bool, ∃ c3 : List Nat, All2 (IRep (GW w)) cs [.bool c0, lC c1, .bool c2, lC c3] := by
  obtain ⟨f0, y0, h0⟩ := op_field Tryz.underlying26 h (i := 0) rfl (n := 2) (by kernel_rfl)
  obtain ⟨c0, c1, r0⟩ := op24 h0 hs
  obtain ⟨f1, y1, h1⟩ := op_field Tryz.underlying26 h (i := 1) rfl (n := 2) (by kernel_rfl)
  obtain ⟨c2, c3, r1⟩ := op24 h1 hs
  have r := op_piece (off := 0) rfl r0 (op_piece (off := 2) rfl r1 (op_end (op_len Tryz.underlying26 h (by kernel_rfl))))
  exact ⟨c0, c1, c2, c3, r⟩

theorem op39 {H : Type} {enc : TypeId × Value → H} {w : World} {base : Nat} {spare : Nat → Bool} {held : Bool} {fuel : Nat} {cs : List Value} {x : DataW H × List MemPlace} (h : DataW.trod enc Tryz.prog w base spare held fuel 39 cs = some x) (hs : ∀ b, spare b = true) :
    ∃ c0 : Bool, ∃ c1 : List Nat, ∃ c2 : Bool, ∃ c3 : List Nat, ∃ c4 : Bool, ∃ c5 : List Nat, ∃ c6 : Bool, ∃ c7 : List Nat, ∃ c8 : Bool, ∃ c9 : List Nat, ∃ c10 : Bool, ∃ c11 : List Nat, All2 (IRep (GW w)) cs [.bool c0, lC c1, .bool c2, lC c3, .bool c4, lC c5, .bool c6, lC c7, .bool c8, lC c9, .bool c10, lC c11] := by
  obtain ⟨f0, y0, h0⟩ := op_field Tryz.underlying39 h (i := 0) rfl (n := 4) (by kernel_rfl)
  obtain ⟨c0, c1, c2, c3, r0⟩ := op26 h0 hs
  obtain ⟨f1, y1, h1⟩ := op_field Tryz.underlying39 h (i := 1) rfl (n := 4) (by kernel_rfl)
  obtain ⟨c4, c5, c6, c7, r1⟩ := op26 h1 hs
  obtain ⟨f2, y2, h2⟩ := op_field Tryz.underlying39 h (i := 2) rfl (n := 4) (by kernel_rfl)
  obtain ⟨c8, c9, c10, c11, r2⟩ := op26 h2 hs
  have r := op_piece (off := 0) rfl r0 (op_piece (off := 4) rfl r1 (op_piece (off := 8) rfl r2 (op_end (op_len Tryz.underlying39 h (by kernel_rfl)))))
  exact ⟨c0, c1, c2, c3, c4, c5, c6, c7, c8, c9, c10, c11, r⟩

end Go.Proofs.YtdojhoegildiaaaGreat

namespace Go.PL
open Go.RL
end Go.PL

set_option linter.unusedSimpArgs false
set_option linter.unusedVariables false
namespace Go.PL
open Go.RL
section
variable {a b c a' b' c' a2 b2 c2 k : Rat}
end
end Go.PL

namespace Go.PL
open Go.RowKit

set_option linter.unusedVariables false
section
variable {P : Program}

def setAll : List Box → List Nat → List (List PC) → List Box
  | σ, id :: ids, cs :: css => setAll (σ.set id (.live cs)) ids css
  | σ, _, _ => σ
theorem setAll_length : ∀ (σ : List Box) (ids : List Nat) (css : List (List PC)), (setAll σ ids css).length = σ.length
  | σ, [], _ => by simp [setAll]
  | σ, id :: ids, [] => by simp [setAll]
  | σ, id :: ids, cs :: css => by rw [setAll, setAll_length]; simp
theorem setAll_other : ∀ (σ : List Box) (ids : List Nat) (css : List (List PC)) {j : Nat}, j ∉ ids → (setAll σ ids css)[j]? = σ[j]?
  | σ, [], _, j, _ => by simp [setAll]
  | σ, id :: ids, [], j, _ => by simp [setAll]
  | σ, id :: ids, cs :: css, j, h => by
    rw [setAll, setAll_other _ _ _ (fun q => h (List.mem_cons_of_mem _ q)), List.getElem?_set_ne (fun q => h (by rw [q]; exact List.mem_cons_self ..))]
theorem setAll_at : ∀ (σ : List Box) (ids : List Nat) (css : List (List PC)) {i id : Nat} {cs : List PC}, ids.Nodup → (∀ j ∈ ids, j < σ.length) → ids[i]? = some id → css[i]? = some cs → (setAll σ ids css)[id]? = some (.live cs)
  | σ, [], _, i, id, cs, _, _, h, _ => by simp at h
  | σ, a :: ids, [], i, id, cs, _, _, _, h => by simp at h
  | σ, a :: ids, c :: css, i, id, cs, hn, hl, h, h' => by
    rw [setAll]
    rw [List.nodup_cons] at hn
    cases i with
    | zero =>
      simp at h h'; subst h; subst h'
      rw [setAll_other _ _ _ hn.1, List.getElem?_set_self (hl _ (List.mem_cons_self ..))]
    | succ i => exact setAll_at _ ids css hn.2 (fun j hj => by rw [List.length_set]; exact hl j (List.mem_cons_of_mem _ hj)) (by simpa using h) (by simpa using h')
def nth (ids : List Nat) (i : Nat) : Nat := ids.getD i 0

theorem RepC.of_ren {G : GMem} {bl : Nat → Nat} {σ : List Box} {ids : List Nat} {n : Nat} (hn : ids.length = n) (hσ : ∀ i, i < n → There σ (nth ids i)) {v : Value} {p : PC} (hp : p.lt n = true) (h : RepC G bl (There σ) v (p.ren (nth ids))) :
    RepC G (fun i => bl (nth ids i)) (fun i => i < n) v p := by
  cases p with
  | ptr id off => obtain ⟨_, h2⟩ := h; exact ⟨by simpa [PC.lt] using hp, h2⟩
  | msl id off len cap sz => obtain ⟨_, h2, h3⟩ := h; exact ⟨by simpa [PC.lt] using hp, h2, h3⟩
  | clo f ps =>
    obtain ⟨arr, rfl, h2, _⟩ := h
    refine ⟨arr, rfl, ?_, fun p hp' => ?_⟩
    · rw [h2, List.map_map]; rfl
    · simp only [PC.lt, List.all_eq_true] at hp
      simpa using hp p hp'
  | _ => exact h
theorem RepE.of_ren {G : GMem} {bl : Nat → Nat} {σ : List Box} {ids : List Nat} {n : Nat} (hn : ids.length = n) (hσ : ∀ i, i < n → There σ (nth ids i)) {v : Value} {p : PE} (hp : p.lt n = true) (h : RepE G bl (There σ) v (p.ren (nth ids))) :
    RepE G (fun i => bl (nth ids i)) (fun i => i < n) v p := by
  cases p with
  | c p => exact RepC.of_ren hn hσ hp h
  | a cs =>
    obtain ⟨arr, h1, h2⟩ := h
    refine ⟨arr, h1, ?_⟩
    simp only [PE.lt, List.all_eq_true] at hp
    clear h1
    generalize arr.toList = l at h2
    induction cs generalizing l with
    | nil => cases h2; exact .nil
    | cons c cs ih =>
      cases h2 with
      | cons a b => exact .cons (RepC.of_ren hn hσ (hp c (List.mem_cons_self ..)) a) (ih (fun x hx => hp x (List.mem_cons_of_mem _ hx)) _ b)

theorem retB_of_body {f : FuncId} {fn : Func} {c : Code} (hf : P.funcs[f]? = some fn) (hname : (fn.name == "runtime.NumGoroutine") = false) (hb : fn.body = some c) {args : List PE} {css : List (List PC)} {md : Md} (hfz : md.fz = false)
    (hargs : args.all (PE.lt css.length) = true) (hcs : ∀ cs ∈ css, cs.all PC.im = true) (T : PV → List (List PC) → Prop)
    (h : PWp P md c { slots := args.map .e ++ List.replicate (fn.ntmps - args.length) (.t []), st := css.map Box.live } fun e s => (e = .normal ∨ e = .ret) ∧ ∃ l, resAll P s fn.results.toList = some l ∧ l.all PE.im = true ∧ ∃ css', css'.length = css.length ∧ (∀ cs ∈ css', cs.all PC.im = true) ∧ T (pack (l.map PE.norm)) css' ∧ ∃ τ, s.st = css'.map Box.live ++ τ)
    (ids : List Nat) (σ : List Box) (hn : ids.Nodup) (hid : ∀ i, i < css.length → ∃ id cs, ids[i]? = some id ∧ css[i]? = some cs ∧ σ[id]? = some (.live cs)) (hil : ids.length = css.length) :
    RetM P f (args.map (PE.ren (nth ids))) σ fun r' σ' => ∃ css', T r' css' ∧ css'.length = css.length ∧ σ' = setAll σ ids css' := by
  refine ⟨⟨fn, hf, hname, by rw [hb]; rfl⟩, fun G bl w vs hs hvs => ?_⟩
  refine calls_of_wp hf hb ?_
  have hnth : ∀ i, i < css.length → ids[i]? = some (nth ids i) := fun i hi => by
    have : i < ids.length := by omega
    simp [nth, List.getD_eq_getElem?_getD, List.getElem?_eq_getElem this]
  have hlive : ∀ i cs, css[i]? = some cs → σ[nth ids i]? = some (.live cs) := fun i cs hi => by
    have hlt := (List.getElem?_eq_some_iff.1 hi).1
    obtain ⟨id, cs', h1, h2, h3⟩ := hid i hlt
    rw [hnth i hlt, Option.some.injEq] at h1
    rw [hi, Option.some.injEq] at h2
    rw [h1, h2]; exact h3
  have hth : ∀ i, i < css.length → There σ (nth ids i) := fun i hi => ⟨_, hlive i _ (List.getElem?_eq_getElem hi), rfl⟩
  have hidl : ∀ j ∈ ids, j < σ.length := fun j hj => by
    obtain ⟨i, hi⟩ := List.getElem?_of_mem hj
    have hlt := (List.getElem?_eq_some_iff.1 hi).1
    have := there_lt (hth i (by omega))
    rw [hnth i (by omega), Option.some.injEq] at hi
    rwa [hi] at this
  have hinj : ∀ i j, i < css.length → j < css.length → nth ids i = nth ids j → i = j := fun i j hi hj he => by
    exact (List.getElem?_inj (i := i) (j := j) (by omega) hn).1 (by rw [hnth i hi, hnth j hj, he])
  have hmem : ∀ j, j ∈ ids → ∃ i, i < css.length ∧ nth ids i = j := fun j hj => by
    obtain ⟨i, hi⟩ := List.getElem?_of_mem hj
    have hlt := (List.getElem?_eq_some_iff.1 hi).1
    refine ⟨i, by omega, ?_⟩
    rw [hnth i (by omega), Option.some.injEq] at hi
    exact hi
  let E : Env := { w0 := w, G0 := G, bl0 := fun i => bl (nth ids i), n0 := css.length }
  have hlen : vs.size = args.length := by have := hvs.length; simpa using this
  have hst : ∀ i cs, (css.map Box.live)[i]? = some (Box.live cs) → css[i]? = some cs := fun i cs hi => by
    rw [List.getElem?_map, Option.map_eq_some_iff] at hi
    obtain ⟨x, hx, he⟩ := hi
    cases he; exact hx
  have hthere : ∀ i, i < css.length → There (css.map Box.live) i := fun i hi => ⟨Box.live (css[i]'hi), by rw [List.getElem?_map, List.getElem?_eq_getElem hi]; rfl, rfl⟩
  have rel : Rel E { tmps := vs ++ Array.replicate (fn.ntmps - vs.size) undef, defers := [] } w { slots := args.map .e ++ List.replicate (fn.ntmps - args.length) (.t []), st := css.map Box.live } G (fun i => bl (nth ids i)) := by
    refine ⟨⟨?_, rfl, ⟨hs.agree, fun j ds hj => ?_, fun j ds hj => ?_, fun j j' ds ds' hj hj' hbb => ?_⟩⟩, ⟨rfl, rfl, rfl, Nat.le_refl _, fun k _ _ => rfl, GLe.refl G, fun b o u h => .inl h, fun _ _ => rfl, fun j ds hj hh => ?_, by simp [E]⟩⟩
    · simp only [Array.toList_append, Array.toList_replicate, hlen]
      refine All2.append (All2.map_right ?_) (All2.replicate _ undef_rep)
      clear hlen h
      generalize vs.toList = l at hvs
      induction args generalizing l with
      | nil => cases hvs; exact .nil
      | cons a args ih =>
        simp only [List.all_cons, Bool.and_eq_true] at hargs
        cases hvs with
        | cons g1 g2 =>
          refine .cons ?_ (ih hargs.2 _ g2)
          exact (RepE.of_ren hil hth hargs.1 g1).mono (GLe.refl G) (fun _ _ => rfl) hthere
    · have h1 := hlive j ds (hst j ds hj)
      obtain ⟨arr, e, k1, k2, k3⟩ := hs.live _ ds h1
      have him := hcs ds (List.mem_of_getElem? (hst j ds hj))
      exact ⟨arr, e, k1, (k2.irep_of_im him).mono fun _ _ => RepC.of_irep, k3⟩
    · rw [List.getElem?_map, Option.map_eq_some_iff] at hj
      obtain ⟨x, _, he⟩ := hj; cases he
    · have g1 := hst j ds hj; have g2 := hst j' ds' hj'
      have := hs.inj _ _ ds ds' (hlive j ds g1) (hlive j' ds' g2) hbb
      exact hinj j j' (List.getElem?_eq_some_iff.1 g1).1 (List.getElem?_eq_some_iff.1 g2).1 this
    · have g1 := (List.getElem?_eq_some_iff.1 (hst j ds hh)).1
      exact absurd g1 (Nat.not_lt.2 hj)
  refine wp_mono (h E _ w G _ (fun q => by rw [hfz] at q; cases q) rel) fun e' a' w' hp => ?_
  obtain ⟨s', G', bl', ⟨he, l, hl, him, css', hcl', hcs', hT, τ, hτ⟩, rel'⟩ := hp
  obtain ⟨us, g1, g2⟩ := run_results rel' hl
  have g3 := run_results' g1
  have hx := rel'.ext
  have hb0 : ∀ i, i < css.length → bl' i = bl (nth ids i) := fun i hi => hx.same i (by show i < css.length; exact hi)
  have hlive' : ∀ i cs, css'[i]? = some cs → ∃ arr e, w'.heap[bl (nth ids i)]? = some (.cells arr e (0, 0)) ∧ All2 (IRep G') arr.toList cs ∧ ∀ o, G' (bl (nth ids i)) o = none := fun i cs hi => by
    have hlt := (List.getElem?_eq_some_iff.1 hi).1
    obtain ⟨arr, e, k1, k2, k3⟩ := rel'.rel.st.live i cs (by rw [hτ, List.getElem?_append_left (by simpa using hlt), List.getElem?_map, hi]; rfl)
    rw [hb0 i (by omega)] at k1 k3
    exact ⟨arr, e, k1, k2.irep_of_im (hcs' cs (List.mem_of_getElem? hi)), k3⟩
  have gnone : ∀ b, b < w.heap.size → (∀ o, G b o = none) → ∀ o, G' b o = none := fun b hb hg o => by
    cases hgo : G' b o with
    | none => rfl
    | some u =>
      rcases hx.gnew b o u hgo with q | q
      · have q' : G b o = some u := q
        rw [hg o] at q'; simp at q'
      · exact absurd hb (Nat.not_lt.2 q)
  have at' : ∀ i, i < css.length → ∃ cs, css'[i]? = some cs ∧ (setAll σ ids css')[nth ids i]? = some (.live cs) := fun i hi => by
    have hlt : i < css'.length := by omega
    exact ⟨css'[i], List.getElem?_eq_getElem hlt, setAll_at σ ids css' hn hidl (hnth i hi) (List.getElem?_eq_getElem hlt)⟩
  have hthσ : ∀ j, There σ j → There (setAll σ ids css') j := fun j hj => by
    by_cases hm : j ∈ ids
    · obtain ⟨i, hi, rfl⟩ := hmem j hm
      obtain ⟨cs, _, h2⟩ := at' i hi
      exact ⟨_, h2, rfl⟩
    · obtain ⟨b, hb', ht⟩ := hj
      exact ⟨b, by rw [setAll_other _ _ _ hm]; exact hb', ht⟩
  have back : ∀ {j : Nat} {xs : List PC}, (setAll σ ids css')[j]? = some (.live xs) → ∃ ys, σ[j]? = some (.live ys) := fun {j xs} hj => by
    by_cases hm : j ∈ ids
    · obtain ⟨i, hi, rfl⟩ := hmem j hm
      exact ⟨_, hlive i _ (List.getElem?_eq_getElem hi)⟩
    · rw [setAll_other _ _ _ hm] at hj; exact ⟨xs, hj⟩
  have hrel : RelS G' bl w' (setAll σ ids css') := by
    refine ⟨rel'.rel.st.agree, fun j ds hj => ?_, fun j ds hj => ?_, fun j j' ds ds' hj hj' hbb => ?_⟩
    · by_cases hm : j ∈ ids
      · obtain ⟨i, hi, rfl⟩ := hmem j hm
        obtain ⟨cs, h1, h2⟩ := at' i hi
        rw [h2, Option.some.injEq, Box.live.injEq] at hj
        subst hj
        obtain ⟨arr, e, k1, k2, k3⟩ := hlive' i cs h1
        exact ⟨arr, e, k1, k2.mono fun _ _ => RepC.of_irep, k3⟩
      · rw [setAll_other _ _ _ hm] at hj
        obtain ⟨arr1, e1, k1, k2, k3⟩ := hs.live j ds hj
        have hlt := heap_lt k1
        refine ⟨arr1, e1, ?_, ?_, gnone _ hlt k3⟩
        · rw [hx.block (bl j) hlt fun i hi hh => ?_]
          · exact k1
          · have hi' : i < css.length := hi
            have := hs.inj _ _ _ ds (hlive i _ (List.getElem?_eq_getElem hi')) hj hh
            exact hm (by rw [← this]; exact List.mem_of_getElem? (hnth i hi'))
        · exact k2.mono fun u p => RepC.mono hx.gle (fun _ _ => rfl) hthσ
    · by_cases hm : j ∈ ids
      · obtain ⟨i, hi, rfl⟩ := hmem j hm
        obtain ⟨cs, _, h2⟩ := at' i hi
        rw [h2] at hj; cases hj
      · rw [setAll_other _ _ _ hm] at hj
        obtain ⟨us1, k1, k2⟩ := hs.frz j ds hj
        exact ⟨us1, fun i hi => hx.gle _ _ _ (k1 i hi), fun i hi => IRep.mono hx.gle (k2 i hi)⟩
    · obtain ⟨y1, q1⟩ := back hj
      obtain ⟨y2, q2⟩ := back hj'
      exact hs.inj j j' y1 y2 q1 q2 hbb
  have fin : ∃ v, (results fn a'.tmps).run P w' = .ok v w' ∧ ∃ v' r' σ' G'' bl'', Ending.returned v = .returned v' ∧ (∃ ds, T r' ds ∧ ds.length = css.length ∧ σ' = setAll σ ids ds) ∧ RepV G'' bl'' (There σ') v' r' ∧ RelS G'' bl'' w' σ' ∧ (∀ j, There σ j → There σ' j) ∧ σ.length ≤ σ'.length ∧
      (∀ j, j < σ.length → bl'' j = bl j) ∧ (∀ j ds, σ.length ≤ j → σ'[j]? = some (.live ds) → w.heap.size ≤ bl'' j) ∧ (∀ j ds, σ'[j]? = some (.live ds) → j < σ.length → ∃ ds', σ[j]? = some (.live ds')) ∧
      GLe G G'' ∧ (∀ b o u, G'' b o = some u → G b o = some u ∨ w.heap.size ≤ b) ∧ w'.os = w.os ∧ w'.tape = w.tape ∧ w'.output = w.output ∧ w.heap.size ≤ w'.heap.size ∧
      ∀ k, k < w.heap.size → (∀ j ds, σ[j]? = some (.live ds) → bl j ≠ k) → w'.heap[k]? = w.heap[k]? := by
    refine ⟨_, g3, packV us, pack (l.map PE.norm), _, G', bl, rfl, ⟨_, hT, hcl', rfl⟩, ?_, hrel, hthσ, by rw [setAll_length]; exact Nat.le_refl _, fun _ _ => rfl, fun j ds hj h2 => ?_, fun j ds hj _ => back hj, hx.gle, hx.gnew, hx.os, hx.tape, hx.output, hx.size, fun k hk hh => ?_⟩
    · exact pack_rep (All2.normE (g2.of_im him))
    · have := there_lt (σ := setAll σ ids css') ⟨_, h2, rfl⟩
      rw [setAll_length] at this; omega
    · exact hx.block k hk fun i hi => hh _ _ (hlive i _ (List.getElem?_eq_getElem (show i < css.length from hi)))
  rcases he with rfl | rfl
  · exact ⟨rel'.rel.defers, fin⟩
  · exact ⟨rel'.rel.defers, fin⟩
end
end Go.PL
