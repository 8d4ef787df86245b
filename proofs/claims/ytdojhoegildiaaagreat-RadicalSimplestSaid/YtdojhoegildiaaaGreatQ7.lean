/- The way of a continued fraction between two roots, and that it ends at the simplest fraction. Conditions: each lemma's own.
   The reference's way between two roots. Conditions: each lemma's own.
   The walk of radical.Between. Conditions: none.
   The walk of the reference's floor of roots. Conditions: none.
   The walk of the reference's Between. Conditions: none.
   The simplest fraction between two short roots: both ways to it. Conditions: each lemma's own.
   The simplest fraction between two roots, by the program and by the reference. Conditions: none.
   Points of any numbers in the walks. Conditions: each lemma's own.
   Lists of fractions of any form, and of roots, in the walks. Conditions: each lemma's own.
   The walks of smallness. Conditions: none.
   The examples of the chapter on signs of sums with roots, and sums, in the walks. Conditions: each lemma's own.
   The walk of the examples of the chapter on signs of sums with roots. Conditions: none.
   The order of points, in plain terms. Conditions: each lemma's own.
   The laws of signs of sums with roots, in plain terms. Conditions: each lemma's own. -/
import Derived.Test.YtdojhoegildiaaaGreatQ6
set_option linter.unusedVariables false
set_option linter.unusedSimpArgs false
set_option linter.unusedSimpArgs false
set_option linter.unusedVariables false
namespace Go.PL
open Go.RL
abbrev nm (a b c : Rat) (n : Int) : Rat := (a - (n : Rat)) * (a - (n : Rat)) - b * b * c
abbrev ivA (a b c : Rat) (n : Int) : Rat := (a - (n : Rat)) * (1 / nm a b c n)
abbrev ivB (a b c : Rat) (n : Int) : Rat := -b * (1 / nm a b c n)
abbrev ivC (a b c : Rat) (n : Int) : Rat := rC (ivB a b c n) c
structure Bt0 (a b c a' b' c' : Rat) (n : Int) : Prop where
  sa : SzR a 330
  sb : SzR b 330
  sc : SzR c 330
  sa' : SzR a' 330
  sb' : SzR b' 330
  sc' : SzR c' 330
  hc : Rdc b c
  hc' : Rdc b' c'
  z : b = 0 → c = 0
  z' : b' = 0 → c' = 0
  hn : flR a b c = n
  sn : SzI n 700
  h0 : 0 ≤ two (a - 0) b c
inductive Bt : Rat → Rat → Rat → Rat → Rat → Rat → Rat → Prop where
  | next {a b c a' b' c' : Rat} {n : Int} (e : Bt0 a b c a' b' c' n) (h1 : 0 < two (a' - ((n : Rat) + 1)) b' c') : Bt a b c a' b' c' ((n : Rat) + 1)
  | last {a b c a' b' c' : Rat} {n m : Int} (e : Bt0 a b c a' b' c' n) (h1 : ¬ 0 < two (a' - ((n : Rat) + 1)) b' c') (h2 : two (a - (n : Rat)) b c = 0)
      (hs : rsS (a' - (n : Rat)) b' c' ≠ 0) (hN : nm a' b' c' n ≠ 0) (hm : flR (ivA a' b' c' n) (ivB a' b' c' n) (ivC a' b' c' n) = m) (sA : SzR (ivA a' b' c' n) 330) (sB : SzR (ivB a' b' c' n) 330) (sC : SzR (ivC a' b' c' n) 330)
      (hr : Rdc (ivB a' b' c' n) (ivC a' b' c' n)) (sm : SzI m 1000) (hy : (m : Rat) + 1 ≠ 0) : Bt a b c a' b' c' ((n : Rat) + 1 / ((m : Rat) + 1))
  | step {a b c a' b' c' : Rat} {n : Int} {y : Rat} (e : Bt0 a b c a' b' c' n) (h1 : ¬ 0 < two (a' - ((n : Rat) + 1)) b' c') (h2 : ¬ two (a - (n : Rat)) b c = 0)
      (hs : rsS (a' - (n : Rat)) b' c' ≠ 0) (hN : nm a' b' c' n ≠ 0) (hs' : rsS (a - (n : Rat)) b c ≠ 0) (hN' : nm a b c n ≠ 0) (sA : SzR (ivA a' b' c' n) 330) (sB : SzR (ivB a' b' c' n) 330) (sC : SzR (ivC a' b' c' n) 330)
      (sA' : SzR (ivA a b c n) 330) (sB' : SzR (ivB a b c n) 330) (sC' : SzR (ivC a b c n) 330) (sy : SzR y 1000) (hy : y ≠ 0)
      (r : Bt (ivA a' b' c' n) (ivB a' b' c' n) (ivC a' b' c' n) (ivA a b c n) (ivB a b c n) (ivC a b c n) y) : Bt a b c a' b' c' ((n : Rat) + 1 / y)
theorem Rdc.inv {b c : Rat} (h : Rdc b c) (i : Rat) : Rdc (-b * i) (rC (-b * i) c) := by
  refine ⟨rC_nn h.1, ?_⟩
  by_cases q : -b * i = 0
  · exact .inl q
  · rw [rC_n q]
    refine .inr (h.2.resolve_left fun e => q ?_)
    rw [e]; grind
theorem rC_sz {b c : Rat} {k : Nat} (h : SzR c k) (hk : 0 < k) : SzR (rC b c) k := by
  by_cases q : b = 0
  · rw [rC_z q]; exact (inferInstance : SzR (0 : Rat) 1).mono (by omega)
  · rw [rC_n q]; exact h
theorem inv_mul {a b c : Rat} {n : Int} (hc : 0 ≤ c) (hN : nm a b c n ≠ 0) : null (v2 (a - (n : Rat)) b c * v2 (ivA a b c n) (ivB a b c n) (ivC a b c n) - Re.of 1) := by
  rw [v2_rC]
  have hi : 1 / nm a b c n * nm a b c n = 1 := Rat.div_mul_cancel hN
  have e : v2 (a - (n : Rat)) b c * v2 (ivA a b c n) (ivB a b c n) c - Re.of 1 = Re.of (-(b * b * (1 / nm a b c n))) * (rt c * rt c - Re.of c) := Re.ext fun k => by
    have hi' : 1 / nm a b c n * ((a - (n : Rat)) * (a - (n : Rat)) - b * b * c) = 1 := hi
    generalize 1 / nm a b c n = i at *
    simp only [v2, Re.add_s, Re.sub_s, Re.mul_s, Re.of_s]
    grind
  rw [e]; exact null_mul' _ (rt_sq hc)
theorem sgn_of1 : sgn (Re.of 1) = 1 := by rw [sgn_of]; rfl
theorem inv_pos {a b c : Rat} {n : Int} (hc : 0 ≤ c) (hN : nm a b c n ≠ 0) (h : sgn (v2 (a - (n : Rat)) b c) = 1) : sgn (v2 (ivA a b c n) (ivB a b c n) (ivC a b c n)) = 1 := by
  have h1 := sgn_eqv (inv_mul hc hN)
  rwa [sgn_mul, h, sgn_of1, Int.one_mul] at h1
theorem inv_sgn {a b c w : Rat} {n : Int} (hc : 0 ≤ c) (hN : nm a b c n ≠ 0) (h : sgn (v2 (a - (n : Rat)) b c) = 1) (hw : 0 < w) :
    sgn (v2 (ivA a b c n - w) (ivB a b c n) (ivC a b c n)) = -sgn (v2 (a - ((n : Rat) + 1 / w)) b c) := by
  have hwi : 1 / w * w = 1 := Rat.div_mul_cancel (by grind)
  have h1 : sgn (v2 (a - (n : Rat)) b c * v2 (ivA a b c n - w) (ivB a b c n) (ivC a b c n)) = sgn (Re.of (-w) * v2 (a - ((n : Rat) + 1 / w)) b c) := by
    refine sgn_eqv ?_
    have e : v2 (a - (n : Rat)) b c * v2 (ivA a b c n - w) (ivB a b c n) (ivC a b c n) - Re.of (-w) * v2 (a - ((n : Rat) + 1 / w)) b c = v2 (a - (n : Rat)) b c * v2 (ivA a b c n) (ivB a b c n) (ivC a b c n) - Re.of 1 := Re.ext fun k => by
      generalize 1 / w = i at *
      simp only [v2, Re.add_s, Re.sub_s, Re.mul_s, Re.of_s]
      grind
    show null _
    rw [e]; exact inv_mul hc hN
  rw [sgn_mul, sgn_mul, h, Int.one_mul, Re.of_neg, sgn_neg, sgn_of, sgnQ_pos hw] at h1
  rw [h1]; omega
theorem v2_le0 {a b c z z' : Rat} (h : 0 ≤ sgn (v2 (a - z) b c)) (h' : sgn (v2 (a - z') b c) = -1) : z < z' := by
  rcases Classical.em (z < z') with q | q
  · exact q
  · have := v2_mono_neg h' (Rat.not_lt.1 q); omega
theorem v2_ge0 {a b c z z' : Rat} (h : sgn (v2 (a - z) b c) = 1) (h' : sgn (v2 (a - z') b c) ≤ 0) : z < z' := by
  rcases Classical.em (z < z') with q | q
  · exact q
  · have := v2_mono_pos h (Rat.not_lt.1 q); omega
theorem v2_one {a b c : Rat} {n : Int} (h : sgn (v2 (a - ((n : Rat) + 1)) b c) ≤ 0) : 0 ≤ sgn (Re.of 1 - v2 (a - (n : Rat)) b c) := by
  have h1 : 0 ≤ sgn (-v2 (a - ((n : Rat) + 1)) b c) := by rw [sgn_neg]; omega
  refine nn_eq (fun k => ?_) h1
  simp only [v2, Re.add_s, Re.sub_s, Re.mul_s, Re.of_s, Re.neg_s]; grind
theorem lt_num {z : Rat} {n : Int} (h0 : 0 ≤ n) (h : (n : Rat) < z) : n.natAbs ≤ z.num.natAbs := by
  have h2 : ¬ z ≤ (n : Rat) := Rat.not_le.2 h
  rw [le_iff_num] at h2
  have h3 : ((n : Int) : Rat).num = n := rfl
  have h4 : (((n : Int) : Rat).den : Int) = 1 := rfl
  rw [h3, h4] at h2
  have hd := z.den_pos
  have h5 : n * 1 ≤ n * (z.den : Int) := Int.mul_le_mul_of_nonneg_left (by omega) h0
  omega
theorem bt_all {K : Int} (hK : SzI K 329) : ∀ (d : Nat) (a b c a' b' c' z : Rat), Rdc b c → Rdc b' c' → (b = 0 → c = 0) → (b' = 0 → c' = 0) → SzR c 330 → SzR c' 330 → Fit K d a b c → Fit K d a' b' c' →
    0 ≤ sgn (v2 a b c) → Btw a b c a' b' c' z → z.den ≤ d → SzI z.num 700 → SzI (z.den : Int) 700 → ∃ x, Bt a b c a' b' c' x ∧ SimpP (Btw a b c a' b' c') x := by
  intro d
  induction d with
  | zero => intro a b c a' b' c' z _ _ _ _ _ _ _ _ _ _ h; have := z.den_pos; omega
  | succ d ih =>
    intro a b c a' b' c' z hr hr' hz hz' sc sc' hf hf' h0 hb hd s1 s2
    obtain ⟨sa, sb⟩ := hf.size hK
    obtain ⟨sa', sb'⟩ := hf'.size hK
    obtain ⟨f1, _⟩ := flR_spec (a := a) (b := b) hr.1
    have f2 := flR_lt (a := a) hr
    obtain ⟨n, hn⟩ : ∃ n, flR a b c = n := ⟨_, rfl⟩
    rw [hn] at f1 f2
    have hnz : ∀ u, Btw a b c a' b' c' u → (n : Rat) < u := fun u hu => v2_le0 f1 hu.1
    have n0 : 0 ≤ n := by
      have h1 : (0 : Rat) < (n : Rat) + 1 := v2_le0 (a := a) (b := b) (c := c) (by rw [show a - 0 = a by grind]; exact h0) f2
      have h2 : ((0 : Int) : Rat) < ((n + 1 : Int) : Rat) := by rw [Rat.intCast_add, ic1]; exact h1
      have : (0 : Int) < n + 1 := by exact_mod_cast h2
      omega
    have sn : SzI n 700 := s1.le_of (lt_num n0 (hnz z hb))
    have e : Bt0 a b c a' b' c' n := ⟨sa, sb, sc, sa', sb', sc', hr, hr', hz, hz', hn, sn, by rw [two_eq hr.1, show a - 0 = a by grind]; exact h0⟩
    by_cases h1 : 0 < two (a' - ((n : Rat) + 1)) b' c'
    · refine ⟨_, .next e h1, ?_⟩
      rw [two_eq hr'.1] at h1
      have hg : Btw a b c a' b' c' ((n + 1 : Int) : Rat) := by
        rw [Rat.intCast_add, ic1]
        exact ⟨f2, by have := sgn_le_one (v2 (a' - ((n : Rat) + 1)) b' c'); omega⟩
      have := SimpP.next hg n0 hnz
      rwa [Rat.intCast_add, ic1] at this
    have h1' : sgn (v2 (a' - ((n : Rat) + 1)) b' c') ≤ 0 := by rw [two_eq hr'.1] at h1; omega
    have hz1 : ∀ u, Btw a b c a' b' c' u → u < (n : Rat) + 1 := fun u hu => v2_ge0 hu.2 h1'
    have t' : sgn (v2 (a' - (n : Rat)) b' c') = 1 := v2_mono_pos hb.2 (by have := hnz z hb; grind)
    have hs := rsS_ne hr' (by rw [t']; decide)
    have hN : nm a' b' c' n ≠ 0 := norm_ne hr' (by rw [t']; decide)
    have hF' := hf'.step hr'.1 n (by omega) (v2_one h1') rfl hN
    obtain ⟨sA, sB⟩ := hF'.size hK
    have sC : SzR (ivC a' b' c' n) 330 := rC_sz sc' (by omega)
    have hR' : Rdc (ivB a' b' c' n) (ivC a' b' c' n) := hr'.inv _
    have hP' := inv_pos hr'.1 hN t'
    -- the inverse of the greater root is not less than 1
    have hP1 : 0 ≤ sgn (v2 (ivA a' b' c' n - 1) (ivB a' b' c' n) (ivC a' b' c' n)) := by
      rw [inv_sgn hr'.1 hN t' (by decide), show (1 : Rat) / 1 = 1 by grind]; omega
    by_cases h2 : two (a - (n : Rat)) b c = 0
    · have h2' : sgn (v2 (a - (n : Rat)) b c) = 0 := by rwa [two_eq hr.1] at h2
      obtain ⟨g1, _⟩ := flR_spec (a := ivA a' b' c' n) (b := ivB a' b' c' n) hR'.1
      have g2 := flR_lt (a := ivA a' b' c' n) hR'
      have sm : SzI (flR (ivA a' b' c' n) (ivB a' b' c' n) (ivC a' b' c' n)) 1000 := (flR_sz hR').mono (by omega)
      obtain ⟨m, hm⟩ : ∃ m, flR (ivA a' b' c' n) (ivB a' b' c' n) (ivC a' b' c' n) = m := ⟨_, rfl⟩
      rw [hm] at g1 g2 sm
      have m0 : 0 ≤ m := by
        have q1 : (1 : Rat) < (m : Rat) + 1 := v2_le0 hP1 g2
        have q2 : ((1 : Int) : Rat) < ((m + 1 : Int) : Rat) := by rw [Rat.intCast_add, ic1]; exact q1
        have : (1 : Int) < m + 1 := by exact_mod_cast q2
        omega
      have mp : (0 : Rat) < (m : Rat) + 1 := by
        have : ((0 : Int) : Rat) < ((m + 1 : Int) : Rat) := by exact_mod_cast (show 0 < m + 1 by omega)
        rwa [Rat.intCast_add, ic1] at this
      refine ⟨_, .last e h1 h2 hs hN hm sA sB sC hR' sm (by grind), ?_⟩
      have hJ : ∀ w : Rat, 0 < w → (sgn (v2 (ivA a' b' c' n - w) (ivB a' b' c' n) (ivC a' b' c' n)) = -1 ↔ Btw a b c a' b' c' ((n : Rat) + 1 / w)) := by
        intro w hw
        have hwi := div_pos (show (0 : Rat) < 1 by decide) hw
        rw [inv_sgn hr'.1 hN t' hw]
        constructor
        · intro q
          refine ⟨?_, by omega⟩
          have q1 : sgn (-v2 (a - (n : Rat)) b c + Re.of (1 / w)) = 1 := by
            have := (nonneg_add (x := -v2 (a - (n : Rat)) b c) (y := Re.of (1 / w)) (by rw [sgn_neg]; omega) (nn_of.2 (Rat.le_of_lt hwi))).2.1 (.inr (by rw [sgn_of, sgnQ_pos hwi]; decide))
            exact this
          have q2 : v2 (a - ((n : Rat) + 1 / w)) b c = -(-v2 (a - (n : Rat)) b c + Re.of (1 / w)) := Re.ext fun k => by simp only [v2, Re.add_s, Re.mul_s, Re.of_s, Re.neg_s]; grind
          rw [q2, sgn_neg, q1]
        · intro q; have := q.2; omega
      have hy := SimpP.next (I := fun w => 0 < w ∧ sgn (v2 (ivA a' b' c' n - w) (ivB a' b' c' n) (ivC a' b' c' n)) = -1) (n := m) ⟨by rw [Rat.intCast_add, ic1]; exact mp, by rw [Rat.intCast_add, ic1]; exact g2⟩ m0 (fun u hu => v2_le0 g1 hu.2)
      rw [Rat.intCast_add, ic1] at hy
      obtain ⟨r1, r2⟩ := SimpP.den_step (I := Btw a b c a' b' c') (n := n) (fun w hw => ⟨fun q => (hJ w hw).1 q.2, fun q => ⟨hw, (hJ w hw).2 q⟩⟩) hnz mp hy
      exact ⟨r1, fun u hu => ⟨(r2 u hu).2 n0, (r2 u hu).1⟩⟩
    · have t : sgn (v2 (a - (n : Rat)) b c) = 1 := by
        rw [two_eq hr.1] at h2
        have := sgn_le_one (v2 (a - (n : Rat)) b c); omega
      have hs0 := rsS_ne hr (by rw [t]; decide)
      have hN0 : nm a b c n ≠ 0 := norm_ne hr (by rw [t]; decide)
      have hF := hf.step hr.1 n f1 (v2_one (by omega)) rfl hN0
      obtain ⟨sA0, sB0⟩ := hF.size hK
      have sC0 : SzR (ivC a b c n) 330 := rC_sz sc (by omega)
      have hJ : ∀ w : Rat, 0 < w → (Btw (ivA a' b' c' n) (ivB a' b' c' n) (ivC a' b' c' n) (ivA a b c n) (ivB a b c n) (ivC a b c n) w ↔ Btw a b c a' b' c' ((n : Rat) + 1 / w)) := by
        intro w hw
        unfold Btw
        rw [inv_sgn hr'.1 hN t' hw, inv_sgn hr.1 hN0 t hw]
        constructor
        · intro q; exact ⟨by omega, by omega⟩
        · intro q; exact ⟨by omega, by omega⟩
      have hJ0 : ∀ w : Rat, Btw (ivA a' b' c' n) (ivB a' b' c' n) (ivC a' b' c' n) (ivA a b c n) (ivB a b c n) (ivC a b c n) w → 0 < w := fun w hw =>
        v2_le0 (a := ivA a' b' c' n) (b := ivB a' b' c' n) (c := ivC a' b' c' n) (by rw [show ivA a' b' c' n - 0 = ivA a' b' c' n by grind]; omega) hw.1
      obtain ⟨w0, w1, w2, w3⟩ := step_den (hnz z hb) (hz1 z hb)
      have hw := (hJ _ w0).2 (by rw [w1]; exact hb)
      obtain ⟨y, y1, y2⟩ := ih _ _ _ _ _ _ _ hR' (hr.inv _) (fun q => rC_z q) (fun q => rC_z q) sC sC0 hF' hF (nn_1 hP') hw (by omega) (s2.le_of (by omega)) (s2.le_of (by omega))
      have yp := hJ0 y y2.1
      obtain ⟨v1, v2'⟩ := y2.2 _ hw
      have yn := num_pos_iff.2 yp
      have sy : SzR y 1000 := ⟨(s2.le_of (x := y.num) (by omega)).mono (by omega), (s2.le_of (x := (y.den : Int)) (by omega)).mono (by omega)⟩
      refine ⟨_, .step e h1 h2 hs hN hs0 hN0 sA sB sC sA0 sB0 sC0 sy (by grind) y1, ?_⟩
      obtain ⟨r1, r2⟩ := SimpP.den_step (I := Btw a b c a' b' c') (n := n) hJ hnz yp y2
      exact ⟨r1, fun u hu => ⟨(r2 u hu).2 n0, (r2 u hu).1⟩⟩
end Go.PL

set_option linter.unusedSimpArgs false
set_option linter.unusedVariables false
namespace Go.PL
open Go.RL
instance SzI.floor {q : Rat} {k : Nat} [h : SzR q k] : SzI q.floor k := by rw [Rat.floor_def]; exact SzI.div'
theorem ia (x y : Int) : (x : Rat) + (y : Rat) = ((x + y : Int) : Rat) := (Rat.intCast_add x y).symm
theorem i1a (x : Int) : (x : Rat) + 1 = ((x + 1 : Int) : Rat) := by rw [Rat.intCast_add, ic1]
theorem i1s (x : Int) : (x : Rat) - 1 = ((x - 1 : Int) : Rat) := by rw [Rat.intCast_sub, ic1]
theorem fl_le1 {a b c : Rat} {u : Int} (h : Rdc b c) (hu : u ≤ flR a b c) : 0 ≤ two (a - (u : Rat)) b c := by
  obtain ⟨f1, _⟩ := flR_spec (a := a) (b := b) h.1
  rw [two_eq h.1]
  have h1 : (u : Rat) ≤ ((flR a b c : Int) : Rat) := by exact_mod_cast hu
  generalize ((flR a b c : Int) : Rat) = f at *
  refine nn_eq (fun k => ?_) (nn_add f1 (nn_of.2 (show 0 ≤ f - (u : Rat) by grind)))
  simp only [v2, Re.add_s, Re.mul_s, Re.of_s]; grind
theorem fl_lt1 {a b c : Rat} {u : Int} (h : Rdc b c) (hu : flR a b c < u) : two (a - (u : Rat)) b c = -1 := by
  have f2 := flR_lt (a := a) h
  rw [two_eq h.1]
  refine v2_mono_neg f2 ?_
  rw [i1a]; exact_mod_cast (show flR a b c + 1 ≤ u by omega)
theorem two_ltf {a b c : Rat} {u : Int} (h : Rdc b c) : (two (a - (u : Rat)) b c < 0) = (flR a b c < u) := by
  apply propext
  constructor
  · intro q
    rcases Int.lt_or_le (flR a b c) u with k | k
    · exact k
    · have := fl_le1 h k; omega
  · intro q; have := fl_lt1 h q; omega
theorem two_gef {a b c : Rat} {u : Int} (h : Rdc b c) : (0 ≤ two (a - (u : Rat)) b c) = (u ≤ flR a b c) := by
  have := two_ltf (a := a) (u := u) h
  apply propext
  constructor
  · intro q
    rcases Int.lt_or_le (flR a b c) u with k | k
    · rw [← this] at k; omega
    · exact k
  · intro q; exact fl_le1 h q
theorem szi_dn {u f : Int} {k : Nat} (h : SzI u k) (hf : SzI f k) (hu : f < u) : SzI (u - 1) k := by
  by_cases q : 0 ≤ u - 1
  · exact h.le_of (by omega)
  · exact hf.le_of (by omega)
theorem szi_up {u f : Int} {k : Nat} (h : SzI u k) (hf : SzI f k) (hu : u + 1 ≤ f) : SzI (u + 1) k := by
  by_cases q : u + 1 ≤ 0
  · exact h.le_of (by omega)
  · exact hf.le_of (by omega)
theorem floor_nn {q : Rat} (h : 0 ≤ q) : 0 ≤ q.floor := by
  have h1 := lt_fl q
  have h2 : ((0 : Int) : Rat) < ((q.floor + 1 : Int) : Rat) := by rw [Rat.intCast_add, ic1]; exact Std.lt_of_le_of_lt h h1
  have : (0 : Int) < q.floor + 1 := by exact_mod_cast h2
  omega
theorem sq_nnR (b : Rat) : 0 ≤ b * b := by
  by_cases q : 0 ≤ b
  · exact Rat.mul_nonneg q q
  · have := Rat.mul_nonneg (show (0 : Rat) ≤ -b by grind) (show (0 : Rat) ≤ -b by grind); grind
theorem div_mul1 (x y : Rat) : x / y = x * (1 / y) := by rw [Rat.div_def, Rat.div_def, Rat.one_mul]
theorem sub0 (x : Rat) : x - 0 = x := by grind
theorem invC {b c i : Rat} (z : b = 0 → c = 0) (hi : i ≠ 0) : rC (-b * i) c = c := by
  by_cases q : b = 0
  · rw [z q, q]; unfold rC; split <;> rfl
  · refine rC_n fun k => ?_
    rcases Rat.mul_eq_zero.1 k with k | k
    · exact q (by grind)
    · exact hi k
theorem inv_ne {x : Rat} (h : x ≠ 0) : 1 / x ≠ 0 := fun q => by
  have : 1 / x * x = 1 := Rat.div_mul_cancel h
  rw [q] at this; grind
end Go.PL

set_option linter.unusedSimpArgs false
set_option linter.unusedVariables false
set_option maxRecDepth 20000
namespace Go.Proofs.YtdojhoegildiaaaGreat
open Go Go.PL Go.RL
theorem r_between {a b c a' b' c' x : Rat} (h : Bt a b c a' b' c' x) : Ret Tryz.prog 59 [.a (ratC (a) ++ (ratC (b) ++ ratC (c))), .a (ratC (a') ++ (ratC (b') ++ ratC (c')))] (.e (.a (ratC x))) := by
  induction h with
  | next e h1 => haveI := e.sa; haveI := e.sb; haveI := e.sc; haveI := e.sa'; haveI := e.sb'; haveI := e.sc'; haveI := e.sn; exact c_between_1 _ _ _ _ _ _ e.hc.1 e.hc'.1 _ e.hn h1
  | last e h1 h2 hs hN hm sA sB sC hr sm hy => haveI := e.sa; haveI := e.sb; haveI := e.sc; haveI := e.sa'; haveI := e.sb'; haveI := e.sc'; haveI := e.sn; exact c_between_2 _ _ _ _ _ _ e.hc.1 e.hc'.1 _ e.hn h1 h2 hs hN _ hm hy
  | step e h1 h2 hs hN hs' hN' sA sB sC sA' sB' sC' sy hy r ih => haveI := e.sa; haveI := e.sb; haveI := e.sc; haveI := e.sa'; haveI := e.sb'; haveI := e.sc'; haveI := e.sn; exact c_between_3 _ _ _ _ _ _ e.hc.1 e.hc'.1 _ e.hn h1 h2 hs hN hs' hN' _ hy ih
set_option maxHeartbeats 4000000 in
theorem c_Between_0 (a b c a' b' c' : Rat) [SzR a 2] [SzR b 2] [SzR c 2] [SzR a' 2] [SzR b' 2] [SzR c' 2] (hc : 0 ≤ c) (hc' : 0 ≤ c') (h : 0 ≤ cmpR a b c a' b' c') :
    Ret Tryz.prog 23 [.a (ratC (a) ++ (ratC (b) ++ ratC (c))), .a (ratC (a') ++ (ratC (b') ++ ratC (c')))] (.t [.a [.bool false, .sl 0 [], .bool false, .sl 0 []], .c (.int .i64 1)]) := by
  refine ret_of_body (md := {}) Tryz.func23 (by kernel_rfl) rfl ?_; simp only [Tryz.f23, go_sem, Nat.reduceAdd, Nat.reduceSub, List.reduceReplicate]; refine pwx_sr 3 [] (by rfl) fun _ K1 => ?_; simp (disch := omega) only [go_sem]; refine K1 _ ?_; clear K1; refine pwp_seq ?_; refine pwx_sr 0 [] (by rfl) fun _ K2 => ?_; refine rgnX_take 3 fun _ K3 => ?_; simp (disch := omega) only [go_sem, h, decide_true]; refine ⟨_, c_radical_Cmp _ _ _ _ _ _ (by omega) (by assumption) (by assumption), ?_⟩; refine K3 _ ?_; simp (disch := omega) only [go_sem, h, decide_true]; refine K2 _ ?_; clear K3 K2; refine pwp_cond (b := true) (by rfl) (fun _ => ?_) (fun h => nomatch h); refine pwx_sr 0 [] (by rfl) fun _ K4 => ?_; simp (disch := omega) only [go_sem]; refine K4 _ ?_; clear K4; refine pwp_ret ?_; refine r_then ?_; refine ⟨Or.inr rfl, ?_⟩; simp (disch := omega) only [go_sem]
set_option maxHeartbeats 4000000 in
theorem c_Between_1 (a b c a' b' c' : Rat) [SzR a 2] [SzR b 2] [SzR c 2] [SzR a' 2] [SzR b' 2] [SzR c' 2] (hc : 0 ≤ c) (hc' : 0 ≤ c') (h : ¬ 0 ≤ cmpR a b c a' b' c') (h1 : two (a - 0) b c < 0) (h2 : 0 < two (a' - 0) b' c') :
    Ret Tryz.prog 23 [.a (ratC (a) ++ (ratC (b) ++ ratC (c))), .a (ratC (a') ++ (ratC (b') ++ ratC (c')))] (.t [.a (ratC 0), .c (.int .i64 0)]) := by
  refine ret_of_body (md := {}) Tryz.func23 (by kernel_rfl) rfl ?_; simp only [Tryz.f23, go_sem, Nat.reduceAdd, Nat.reduceSub, List.reduceReplicate]; refine pwx_sr 3 [] (by rfl) fun _ K1 => ?_; simp (disch := omega) only [go_sem, ex_i0]; refine K1 _ ?_; clear K1; refine pwp_seq ?_; refine pwx_sr 0 [] (by rfl) fun _ K2 => ?_; refine rgnX_take 3 fun _ K3 => ?_; simp (disch := omega) only [go_sem, ex_i0, h, decide_false]; refine ⟨_, c_radical_Cmp _ _ _ _ _ _ (by omega) (by assumption) (by assumption), ?_⟩; refine K3 _ ?_; simp (disch := omega) only [go_sem, ex_i0, h, decide_false]; refine K2 _ ?_; clear K3 K2; refine pwp_cond (b := false) (by rfl) (fun h => nomatch h) (fun _ => ?_); refine pwp_skip ?_; refine n_then ?_; refine pwx_sr 1 [] (by rfl) fun _ K4 => ?_; refine rgnX_take 1 fun _ K5 => ?_; simp (disch := omega) only [go_sem, ex_i0]; refine ⟨_, c_rational_FromInt64 _ (by omega) (by omega), ?_⟩; refine K5 _ ?_; simp (disch := omega) only [go_sem, ex_i0]; refine K4 _ ?_; clear K5 K4; refine pwp_seq ?_; refine pwp_block ?_; refine pwx_sr 0 [some 14, some 15, some 16, some 17, some 18, some 19, some 20, some 21, some 22, some 23, some 13] (by rfl) fun _ K6 => ?_; refine rgnX_take 3 fun _ K7 => ?_; simp (disch := omega) only [go_sem, ex_i0, h1, h2, decide_true]; refine ⟨_, c_radical_CmpRat _ _ _ _ (by omega) (by assumption), ?_⟩; refine K7 _ ?_; refine rgnX_take 5 fun _ K8 => ?_; simp (disch := omega) only [go_sem, ex_i0, h1, h2, decide_true]
  first | refine ⟨_, c_radical_CmpRat _ _ _ _ (by omega) (by assumption), ?_⟩ | skip
  refine K8 _ ?_; simp (disch := omega) only [go_sem, ex_i0, h1, h2, decide_true]; refine K6 _ ?_; clear K8 K7 K6; refine pwp_cond (b := true) (by rfl) (fun _ => ?_) (fun h => nomatch h); refine pwx_sr 0 [] (by rfl) fun _ K9 => ?_; simp (disch := omega) only [go_sem, ex_i0]; refine K9 _ ?_; clear K9; refine pwp_ret ?_; refine r_block ?_; refine r_then ?_; refine ⟨Or.inr rfl, ?_⟩; simp (disch := omega) only [go_sem, ex_i0]
set_option maxHeartbeats 4000000 in
theorem c_Between_2 (a b c a' b' c' : Rat) [SzR a 2] [SzR b 2] [SzR c 2] [SzR a' 2] [SzR b' 2] [SzR c' 2] (hc : 0 ≤ c) (hc' : 0 ≤ c') (h : ¬ 0 ≤ cmpR a b c a' b' c') (h2 : ¬ 0 < two (a' - 0) b' c') (h3 : two (a' - 0) b' c' ≤ 0) (y : Rat) [SzR y 700] (hy : Ret Tryz.prog 59 [.a (ratC (-a') ++ (ratC (-b') ++ ratC (c'))), .a (ratC (-a) ++ (ratC (-b) ++ ratC (c)))] (.e (.a (ratC y)))) :
    Ret Tryz.prog 23 [.a (ratC (a) ++ (ratC (b) ++ ratC (c))), .a (ratC (a') ++ (ratC (b') ++ ratC (c')))] (.t [.a (ratC (-y)), .c (.int .i64 0)]) := by
  refine ret_of_body (md := {}) Tryz.func23 (by kernel_rfl) rfl ?_; simp only [Tryz.f23, go_sem, Nat.reduceAdd, Nat.reduceSub, List.reduceReplicate]; refine pwx_sr 3 [] (by rfl) fun _ K1 => ?_; simp (disch := omega) only [go_sem, ex_i0]; refine K1 _ ?_; clear K1; refine pwp_seq ?_; refine pwx_sr 0 [] (by rfl) fun _ K2 => ?_; refine rgnX_take 3 fun _ K3 => ?_; simp (disch := omega) only [go_sem, ex_i0, h, decide_false]; refine ⟨_, c_radical_Cmp _ _ _ _ _ _ (by omega) (by assumption) (by assumption), ?_⟩; refine K3 _ ?_; simp (disch := omega) only [go_sem, ex_i0, h, decide_false]; refine K2 _ ?_; clear K3 K2; refine pwp_cond (b := false) (by rfl) (fun h => nomatch h) (fun _ => ?_); refine pwp_skip ?_; refine n_then ?_; refine pwx_sr 1 [] (by rfl) fun _ K4 => ?_; refine rgnX_take 1 fun _ K5 => ?_; simp (disch := omega) only [go_sem, ex_i0]; refine ⟨_, c_rational_FromInt64 _ (by omega) (by omega), ?_⟩; refine K5 _ ?_; simp (disch := omega) only [go_sem, ex_i0]; refine K4 _ ?_; clear K5 K4; refine pwp_seq ?_; refine pwp_block ?_; by_cases h1 : two (a - 0) b c < 0
  · refine pwx_sr 0 [some 14, some 15, some 16, some 17, some 18, some 19, some 20, some 21, some 22, some 23, some 13] (by rfl) fun _ K6 => ?_; refine rgnX_take 3 fun _ K7 => ?_; simp (disch := omega) only [go_sem, ex_i0, h1, h2, decide_false]; refine ⟨_, c_radical_CmpRat _ _ _ _ (by omega) (by assumption), ?_⟩; refine K7 _ ?_; refine rgnX_take 5 fun _ K8 => ?_; simp (disch := omega) only [go_sem, ex_i0, h1, h2, decide_false]
    first | refine ⟨_, c_radical_CmpRat _ _ _ _ (by omega) (by assumption), ?_⟩ | skip
    refine K8 _ ?_; simp (disch := omega) only [go_sem, ex_i0, h1, h2, decide_false]; refine K6 _ ?_; clear K8 K7 K6; refine pwp_cond (b := false) (by rfl) (fun h => nomatch h) (fun _ => ?_); refine pwx_sr 0 [] (by rfl) fun _ K9 => ?_; refine rgnX_take 3 fun _ K10 => ?_; simp (disch := omega) only [go_sem, ex_i0, h3, decide_true]; refine ⟨_, c_radical_CmpRat _ _ _ _ (by omega) (by assumption), ?_⟩; refine K10 _ ?_; simp (disch := omega) only [go_sem, ex_i0, h3, decide_true]; refine K9 _ ?_; clear K10 K9; refine pwp_cond (b := true) (by rfl) (fun _ => ?_) (fun h => nomatch h); refine pwx_sd Tryz.mixed 0 [] (by rfl) [] (by kernel_rfl) (by simp) fun _ K11 => ?_; refine rgnX_take 2 fun _ K12 => ?_; simp (disch := omega) only [go_sem, ex_i0]; refine ⟨_, c_root_Neg _ _ _ (by omega), ?_⟩; refine K12 _ ?_; refine rgnX_take 2 fun _ K13 => ?_; simp (disch := omega) only [go_sem, ex_i0]; refine ⟨_, c_root_Neg _ _ _ (by omega), ?_⟩; refine K13 _ ?_; refine rgnX_take 1 fun _ K14 => ?_; simp (disch := omega) only [go_sem, ex_i0]; refine ⟨_, hy, ?_⟩; refine K14 _ ?_; refine rgnX_take 1 fun _ K15 => ?_; simp (disch := omega) only [go_sem, ex_i0]; refine ⟨_, c_rational_Neg _ (by omega), ?_⟩; refine K15 _ ?_; simp (disch := omega) only [go_sem, ex_i0]; refine K11 _ ?_; clear K15 K14 K13 K12 K11; refine pwp_ret ?_; refine r_block ?_; refine r_then ?_; refine ⟨Or.inr rfl, ?_⟩; simp (disch := omega) only [go_sem, ex_i0]
    all_goals first | rfl | exact ⟨rfl, rfl⟩ | simp
  · refine pwx_sr 0 [some 14, some 15, some 16, some 17, some 18, some 19, some 20, some 21, some 22, some 23, some 13] (by rfl) fun _ K16 => ?_; refine rgnX_take 3 fun _ K17 => ?_; simp (disch := omega) only [go_sem, ex_i0, h1, h2, decide_false]; refine ⟨_, c_radical_CmpRat _ _ _ _ (by omega) (by assumption), ?_⟩; refine K17 _ ?_; refine rgnX_take 5 fun _ K18 => ?_; simp (disch := omega) only [go_sem, ex_i0, h1, h2, decide_false]
    first | refine ⟨_, c_radical_CmpRat _ _ _ _ (by omega) (by assumption), ?_⟩ | skip
    refine K18 _ ?_; simp (disch := omega) only [go_sem, ex_i0, h1, h2, decide_false]; refine K16 _ ?_; clear K18 K17 K16; refine pwp_cond (b := false) (by rfl) (fun h => nomatch h) (fun _ => ?_); refine pwx_sr 0 [] (by rfl) fun _ K19 => ?_; refine rgnX_take 3 fun _ K20 => ?_; simp (disch := omega) only [go_sem, ex_i0, h3, decide_true]; refine ⟨_, c_radical_CmpRat _ _ _ _ (by omega) (by assumption), ?_⟩; refine K20 _ ?_; simp (disch := omega) only [go_sem, ex_i0, h3, decide_true]; refine K19 _ ?_; clear K20 K19; refine pwp_cond (b := true) (by rfl) (fun _ => ?_) (fun h => nomatch h); refine pwx_sd Tryz.mixed 0 [] (by rfl) [] (by kernel_rfl) (by simp) fun _ K21 => ?_; refine rgnX_take 2 fun _ K22 => ?_; simp (disch := omega) only [go_sem, ex_i0]; refine ⟨_, c_root_Neg _ _ _ (by omega), ?_⟩; refine K22 _ ?_; refine rgnX_take 2 fun _ K23 => ?_; simp (disch := omega) only [go_sem, ex_i0]; refine ⟨_, c_root_Neg _ _ _ (by omega), ?_⟩; refine K23 _ ?_; refine rgnX_take 1 fun _ K24 => ?_; simp (disch := omega) only [go_sem, ex_i0]; refine ⟨_, hy, ?_⟩; refine K24 _ ?_; refine rgnX_take 1 fun _ K25 => ?_; simp (disch := omega) only [go_sem, ex_i0]; refine ⟨_, c_rational_Neg _ (by omega), ?_⟩; refine K25 _ ?_; simp (disch := omega) only [go_sem, ex_i0]; refine K21 _ ?_; clear K25 K24 K23 K22 K21; refine pwp_ret ?_; refine r_block ?_; refine r_then ?_; refine ⟨Or.inr rfl, ?_⟩; simp (disch := omega) only [go_sem, ex_i0]
    all_goals first | rfl | exact ⟨rfl, rfl⟩ | simp
set_option maxHeartbeats 4000000 in
theorem c_Between_3 (a b c a' b' c' : Rat) [SzR a 2] [SzR b 2] [SzR c 2] [SzR a' 2] [SzR b' 2] [SzR c' 2] (hc : 0 ≤ c) (hc' : 0 ≤ c') (h : ¬ 0 ≤ cmpR a b c a' b' c') (h1 : ¬ two (a - 0) b c < 0) (h3 : ¬ two (a' - 0) b' c' ≤ 0) (y : Rat) [SzR y 700] (hy : Ret Tryz.prog 59 [.a (ratC (a) ++ (ratC (b) ++ ratC (c))), .a (ratC (a') ++ (ratC (b') ++ ratC (c')))] (.e (.a (ratC y)))) :
    Ret Tryz.prog 23 [.a (ratC (a) ++ (ratC (b) ++ ratC (c))), .a (ratC (a') ++ (ratC (b') ++ ratC (c')))] (.t [.a (ratC y), .c (.int .i64 0)]) := by
  refine ret_of_body (md := {}) Tryz.func23 (by kernel_rfl) rfl ?_; simp only [Tryz.f23, go_sem, Nat.reduceAdd, Nat.reduceSub, List.reduceReplicate]; refine pwx_sr 3 [] (by rfl) fun _ K1 => ?_; simp (disch := omega) only [go_sem, ex_i0]; refine K1 _ ?_; clear K1; refine pwp_seq ?_; refine pwx_sr 0 [] (by rfl) fun _ K2 => ?_; refine rgnX_take 3 fun _ K3 => ?_; simp (disch := omega) only [go_sem, ex_i0, h, decide_false]; refine ⟨_, c_radical_Cmp _ _ _ _ _ _ (by omega) (by assumption) (by assumption), ?_⟩; refine K3 _ ?_; simp (disch := omega) only [go_sem, ex_i0, h, decide_false]; refine K2 _ ?_; clear K3 K2; refine pwp_cond (b := false) (by rfl) (fun h => nomatch h) (fun _ => ?_); refine pwp_skip ?_; refine n_then ?_; refine pwx_sr 1 [] (by rfl) fun _ K4 => ?_; refine rgnX_take 1 fun _ K5 => ?_; simp (disch := omega) only [go_sem, ex_i0]; refine ⟨_, c_rational_FromInt64 _ (by omega) (by omega), ?_⟩; refine K5 _ ?_; simp (disch := omega) only [go_sem, ex_i0]; refine K4 _ ?_; clear K5 K4; refine pwp_seq ?_; refine pwp_block ?_; refine pwx_sr 0 [some 14, some 15, some 16, some 17, some 18, some 19, some 20, some 21, some 22, some 23, some 13] (by rfl) fun _ K6 => ?_; refine rgnX_take 3 fun _ K7 => ?_; simp (disch := omega) only [go_sem, ex_i0, h1, decide_false]; refine ⟨_, c_radical_CmpRat _ _ _ _ (by omega) (by assumption), ?_⟩; refine K7 _ ?_; refine rgnX_take 5 fun _ K8 => ?_; simp (disch := omega) only [go_sem, ex_i0, h1, decide_false]
  first | refine ⟨_, c_radical_CmpRat _ _ _ _ (by omega) (by assumption), ?_⟩ | skip
  refine K8 _ ?_; simp (disch := omega) only [go_sem, ex_i0, h1, decide_false]; refine K6 _ ?_; clear K8 K7 K6; refine pwp_cond (b := false) (by rfl) (fun h => nomatch h) (fun _ => ?_); refine pwx_sr 0 [] (by rfl) fun _ K9 => ?_; refine rgnX_take 3 fun _ K10 => ?_; simp (disch := omega) only [go_sem, ex_i0, h3, decide_false]; refine ⟨_, c_radical_CmpRat _ _ _ _ (by omega) (by assumption), ?_⟩; refine K10 _ ?_; simp (disch := omega) only [go_sem, ex_i0, h3, decide_false]; refine K9 _ ?_; clear K10 K9; refine pwp_cond (b := false) (by rfl) (fun h => nomatch h) (fun _ => ?_); refine pwp_skip ?_; refine n_block ?_; refine n_then ?_; refine pwx_sr 0 [] (by rfl) fun _ K11 => ?_; refine rgnX_take 3 fun _ K12 => ?_; simp (disch := omega) only [go_sem, ex_i0]; refine ⟨_, hy, ?_⟩; refine K12 _ ?_; simp (disch := omega) only [go_sem, ex_i0]; refine K11 _ ?_; clear K12 K11; refine pwp_ret ?_; refine ⟨Or.inr rfl, ?_⟩; simp (disch := omega) only [go_sem, ex_i0]

end Go.Proofs.YtdojhoegildiaaaGreat

set_option linter.unusedSimpArgs false
set_option linter.unusedVariables false
set_option maxRecDepth 20000
namespace Go.Proofs.YtdojhoegildiaaaGreat
open Go Go.PL Go.RL
set_option maxHeartbeats 4000000 in
theorem c_swarfref05_Floor (a b c : Rat) [SzR a 330] [SzR b 330] [SzR c 330] (hr : Rdc b c) :
    Ret Tryz.prog 31 [.a (ratC (a) ++ (ratC (b) ++ ratC (c)))] (.e (.a (ratC ((flR a b c : Int) : Rat)))) := by
  refine ret_of_body (md := {}) Tryz.func31 (by kernel_rfl) rfl ?_; simp only [Tryz.f31, go_sem, Nat.reduceAdd, Nat.reduceSub, List.reduceReplicate]; have hF : SzI (flR a b c) 996 := (flR_sz hr).mono (by omega); have h0 : 0 ≤ (b * b * c).floor := floor_nn (Rat.mul_nonneg (sq_nnR b) hr.1); refine pwx_sr 2 [] (by rfl) fun _ K1 => ?_; simp (disch := omega) only [go_sem, nr_1, ia, i1a, i1s]; refine K1 _ ?_; clear K1; refine pwx_sd Tryz.mixed 1 [] (by rfl) [] (by kernel_rfl) (by simp) fun _ K2 => ?_; refine rgnX_take 5 fun _ K3 => ?_; simp (disch := omega) only [go_sem, nr_1, ia, i1a, i1s]; refine ⟨_, c_swarfref02_Mul _ _ (by omega), ?_⟩; refine K3 _ ?_; refine rgnX_take 3 fun _ K4 => ?_; simp (disch := omega) only [go_sem, nr_1, ia, i1a, i1s]; refine ⟨_, c_swarfref02_Mul _ _ (by omega), ?_⟩; refine K4 _ ?_; refine rgnX_take 1 fun _ K5 => ?_; simp (disch := omega) only [go_sem, nr_1, ia, i1a, i1s]; refine ⟨_, c_swarfref02_Floor _ (by omega), ?_⟩; refine K5 _ ?_; refine rgnX_take 1 fun _ K6 => ?_; simp (disch := omega) only [go_sem, nr_1, ia, i1a, i1s]; refine ⟨_, c_swarfref01_Sqrt _ szi9, ?_⟩; refine K6 _ ?_; simp (disch := omega) only [go_sem, nr_1, ia, i1a, i1s]; refine K2 _ ?_; clear K6 K5 K4 K3 K2; refine pwp_join (false :: true :: true :: true :: false :: false :: false :: false :: false :: false :: false :: false :: false :: false :: false :: false :: false :: false :: false :: false :: false :: false :: false :: false :: false :: false :: false :: false :: false :: false :: false :: false :: false :: false :: false :: false :: false :: false :: false :: false :: false :: false :: false :: false :: false :: false :: false :: false :: false :: false :: false :: []) 3 (fun s => ∃ q : Int, (SzI q 991) ∧ s = { slots := .j :: .e (.c (.ptr 0 0)) :: .e (.c (.ptr 1 0)) :: .e (.c (.ptr 2 0)) :: .j :: .j :: .j :: .j :: .j :: .j :: .j :: .j :: .j :: .j :: .j :: .j :: .j :: .j :: .j :: .j :: .j :: .j :: .j :: .j :: .j :: .j :: .j :: .j :: .j :: .j :: .j :: .j :: .j :: .j :: .j :: .j :: .j :: .j :: .j :: .j :: .j :: .j :: .j :: .j :: .j :: .j :: .j :: .j :: .j :: .j :: .j :: [], st := [.live (ratC a ++ (ratC b ++ ratC c)), .live [.bool false, .nils, .bool false, .nils], .live (intC q)] }) rfl ?_ ?_
  · refine pwx_sr 0 [] (by rfl) fun _ K7 => ?_; refine rgnX_take 3 fun _ K8 => ?_; simp (disch := omega) only [go_sem, nr_1, ia, i1a, i1s]; refine ⟨_, c_swarfref02_Sign _, ?_⟩; refine K8 _ ?_; simp (disch := omega) only [go_sem, nr_1, ia, i1a, i1s]; refine K7 _ ?_; clear K8 K7; refine pwp_cond (b := _) (by rfl) (fun hb0 => ?_) (fun hb0 => ?_)
    · first | replace hb0 := of_decide_eq_true hb0 | skip
      refine pwx_region 0 [] (by rfl) fun _ K9 => ?_; refine rgnX_take 2 fun _ K10 => ?_; simp (disch := omega) only [go_sem, nr_1, ia, i1a, i1s]; refine ⟨_, c_swarfref01_Neg _ szi, ?_⟩; refine K10 _ ?_; simp (disch := omega) only [go_sem, nr_1, ia, i1a, i1s]; refine K9 _ ?_; clear K10 K9; refine n_then ?_; refine ⟨⟨-(sqrtI (b * b * c).floor), ?hf0, ?heq⟩, ?hok⟩
      case heq => first | rfl | simp [St.cut, keep]
      case hf0 => exact (inferInstance : SzI _ _).mono (by omega)
      case hok => refine ⟨rfl, ?_, ?_⟩ <;> first | rfl | (simp [keep, PV.lt, PE.lt, PC.lt, Box.lt, ↓lC_lt]; done) | simp [keep, PV.lt, PE.lt, PC.lt, Box.lt, ↓lC_lt, ↓intC_lt, ↓ratC_lt, ↓u32s_lt]
    · first | replace hb0 := of_decide_eq_false hb0 | skip
      refine pwp_skip ?_; refine n_then ?_; refine ⟨⟨sqrtI (b * b * c).floor, ?hf0, ?heq⟩, ?hok⟩
      case heq => first | rfl | simp [St.cut, keep]
      case hf0 => exact (inferInstance : SzI _ _).mono (by omega)
      case hok => refine ⟨rfl, ?_, ?_⟩ <;> first | rfl | (simp [keep, PV.lt, PE.lt, PC.lt, Box.lt, ↓lC_lt]; done) | simp [keep, PV.lt, PE.lt, PC.lt, Box.lt, ↓lC_lt, ↓intC_lt, ↓ratC_lt, ↓u32s_lt]
  · rintro _ ⟨q, hq, rfl⟩
    refine pwx_sr 1 [] (by rfl) fun _ K11 => ?_; refine rgnX_take 1 fun _ K12 => ?_; simp (disch := omega) only [go_sem, nr_1, ia, i1a, i1s]; refine ⟨_, c_swarfref02_FromInt64 _ (by omega) (by omega), ?_⟩; refine K12 _ ?_; simp (disch := omega) only [go_sem, nr_1, ia, i1a, i1s]; refine K11 _ ?_; clear K12 K11; refine pwx_sd Tryz.mixed 1 [] (by rfl) [] (by kernel_rfl) (by simp) fun _ K13 => ?_; refine rgnX_take 3 fun _ K14 => ?_; simp (disch := omega) only [go_sem, nr_1, ia, i1a, i1s]; refine ⟨_, c_swarfref02_Floor _ (by omega), ?_⟩; refine K14 _ ?_; refine rgnX_take 1 fun _ K15 => ?_; simp (disch := omega) only [go_sem, nr_1, ia, i1a, i1s]; refine ⟨_, c_swarfref05_whole _, ?_⟩; refine K15 _ ?_; refine rgnX_take 2 fun _ K16 => ?_; simp (disch := omega) only [go_sem, nr_1, ia, i1a, i1s]; refine ⟨_, c_swarfref05_whole _, ?_⟩; refine K16 _ ?_; refine rgnX_take 1 fun _ K17 => ?_; simp (disch := omega) only [go_sem, nr_1, ia, i1a, i1s]; refine ⟨_, c_swarfref02_Add _ _ (by omega), ?_⟩; refine K17 _ ?_; simp (disch := omega) only [go_sem, nr_1, ia, i1a, i1s]; refine K13 _ ?_; clear K17 K16 K15 K14 K13; refine pwp_seq ?_; refine pwp_block ?_; refine pwp_loopF (false :: true :: true :: false :: false :: true :: true :: false :: false :: false :: false :: false :: false :: false :: false :: false :: false :: false :: false :: false :: false :: false :: false :: false :: false :: false :: false :: false :: false :: false :: false :: false :: false :: false :: false :: false :: false :: false :: false :: false :: false :: false :: false :: false :: false :: false :: false :: false :: false :: false :: false :: []) 5 (fun M s => ∃ u : Int, (SzI u 996) ∧ (u - flR a b c).toNat = M ∧ s = { slots := .j :: .e (.c (.ptr 0 0)) :: .e (.c (.ptr 1 0)) :: .j :: .j :: .e (.c (.ptr 3 0)) :: .e (.c (.ptr 4 0)) :: .j :: .j :: .j :: .j :: .j :: .j :: .j :: .j :: .j :: .j :: .j :: .j :: .j :: .j :: .j :: .j :: .j :: .j :: .j :: .j :: .j :: .j :: .j :: .j :: .j :: .j :: .j :: .j :: .j :: .j :: .j :: .j :: .j :: .j :: .j :: .j :: .j :: .j :: .j :: .j :: .j :: .j :: .j :: .j :: [], st := [.live (ratC a ++ (ratC b ++ ratC c)), .live [.bool false, .nils, .bool false, .nils], .live (intC q), .live (ratC 1), .live (ratC (u : Rat))] }) (n := (a.floor + q - flR a b c).toNat) rfl ?_ ?_ ?_
    · refine ⟨a.floor + q, ?_, rfl, ?_⟩
      · exact (inferInstance : SzI _ _).mono (by omega)
      · first | rfl | simp [St.cut, keep]
    · refine ⟨rfl, ?_, ?_⟩ <;> first | rfl | (simp [keep, PV.lt, PE.lt, PC.lt, Box.lt, ↓lC_lt]; done) | simp [keep, PV.lt, PE.lt, PC.lt, Box.lt, ↓lC_lt, ↓intC_lt, ↓ratC_lt, ↓u32s_lt]
    · rintro _ _ ⟨u, hu, rfl, rfl⟩
      refine pwp_seq ?_; refine pwx_sr 0 [] (by rfl) fun _ K18 => ?_; refine rgnX_take 3 fun _ K19 => ?_; simp (disch := omega) only [go_sem, nr_1, ia, i1a, i1s]; refine ⟨_, c_swarfref05_CmpRat _ _ _ _ (by omega), ?_⟩; refine K19 _ ?_; simp (disch := omega) only [go_sem, nr_1, ia, i1a, i1s]; refine K18 _ ?_; clear K19 K18; refine pwp_cond (b := _) (by rfl) (fun hb1 => ?_) (fun hb1 => ?_)
      · replace hb1 := of_decide_eq_true hb1; rw [two_ltf hr] at hb1; refine pwp_skip ?_; refine n_then ?_; refine pwp_block ?_; refine pwx_region 0 [] (by rfl) fun _ K20 => ?_; refine rgnX_take 3 fun _ K21 => ?_; simp (disch := omega) only [go_sem, nr_1, ia, i1a, i1s]; refine ⟨_, c_swarfref02_Sub _ _ (by omega), ?_⟩; refine K21 _ ?_; simp (disch := omega) only [go_sem, nr_1, ia, i1a, i1s]; refine K20 _ ?_; clear K21 K20; refine n_block ?_; refine n_then ?_; refine ⟨_, ?hdec, ⟨u - 1, ?hf0, rfl, ?heq⟩, ?hok⟩
        case heq => first | rfl | simp [St.cut, keep]
        case hf0 => exact szi_dn hu hF hb1
        case hdec => omega
        case hok => refine ⟨rfl, ?_, ?_⟩ <;> first | rfl | (simp [keep, PV.lt, PE.lt, PC.lt, Box.lt, ↓lC_lt]; done) | simp [keep, PV.lt, PE.lt, PC.lt, Box.lt, ↓lC_lt, ↓intC_lt, ↓ratC_lt, ↓u32s_lt]
      · replace hb1 := of_decide_eq_false hb1; rw [two_ltf hr] at hb1; refine pwp_exit ?_; refine e_then ?_; refine e_then ?_; refine e_here ?_; refine n_then ?_; refine pwp_seq ?_; refine pwp_block ?_; refine pwp_loopF (false :: true :: true :: false :: false :: true :: true :: false :: false :: false :: false :: false :: false :: false :: false :: false :: false :: false :: false :: false :: false :: false :: false :: false :: false :: false :: false :: false :: false :: false :: false :: false :: false :: false :: false :: false :: false :: false :: false :: false :: false :: false :: false :: false :: false :: false :: false :: false :: false :: false :: false :: []) 5 (fun M s => ∃ w : Int, (SzI w 996) ∧ (w ≤ flR a b c) ∧ (flR a b c - w).toNat = M ∧ s = { slots := .j :: .e (.c (.ptr 0 0)) :: .e (.c (.ptr 1 0)) :: .j :: .j :: .e (.c (.ptr 3 0)) :: .e (.c (.ptr 4 0)) :: .j :: .j :: .j :: .j :: .j :: .j :: .j :: .j :: .j :: .j :: .j :: .j :: .j :: .j :: .j :: .j :: .j :: .j :: .j :: .j :: .j :: .j :: .j :: .j :: .j :: .j :: .j :: .j :: .j :: .j :: .j :: .j :: .j :: .j :: .j :: .j :: .j :: .j :: .j :: .j :: .j :: .j :: .j :: .j :: [], st := [.live (ratC a ++ (ratC b ++ ratC c)), .live [.bool false, .nils, .bool false, .nils], .live (intC q), .live (ratC 1), .live (ratC (w : Rat))] }) (n := (flR a b c - u).toNat) rfl ?_ ?_ ?_
        · refine ⟨u, ?_, ?_, rfl, ?_⟩
          · assumption
          · omega
          · first | rfl | simp [St.cut, keep]
        · refine ⟨rfl, ?_, ?_⟩ <;> first | rfl | (simp [keep, PV.lt, PE.lt, PC.lt, Box.lt, ↓lC_lt]; done) | simp [keep, PV.lt, PE.lt, PC.lt, Box.lt, ↓lC_lt, ↓intC_lt, ↓ratC_lt, ↓u32s_lt]
        · rintro _ _ ⟨w, hw, hwf, rfl, rfl⟩
          refine pwp_seq ?_; refine pwx_sd Tryz.mixed 0 [] (by rfl) [] (by kernel_rfl) (by simp) fun _ K22 => ?_; refine rgnX_take 4 fun _ K23 => ?_; simp (disch := omega) only [go_sem, nr_1, ia, i1a, i1s]; refine ⟨_, c_swarfref02_Add _ _ (by omega), ?_⟩; refine K23 _ ?_; refine rgnX_take 1 fun _ K24 => ?_; simp (disch := omega) only [go_sem, nr_1, ia, i1a, i1s]; refine ⟨_, c_swarfref05_CmpRat _ _ _ _ (by omega), ?_⟩; refine K24 _ ?_; simp (disch := omega) only [go_sem, nr_1, ia, i1a, i1s]; refine K22 _ ?_; clear K24 K23 K22; refine pwp_cond (b := _) (by rfl) (fun hb2 => ?_) (fun hb2 => ?_)
          · replace hb2 := of_decide_eq_true hb2; rw [ge_iff_le, two_gef hr] at hb2; refine pwp_skip ?_; refine n_then ?_; refine pwp_block ?_; refine pwx_region 0 [] (by rfl) fun _ K25 => ?_; refine rgnX_take 3 fun _ K26 => ?_; simp (disch := omega) only [go_sem, nr_1, ia, i1a, i1s]; refine ⟨_, c_swarfref02_Add _ _ (by omega), ?_⟩; refine K26 _ ?_; simp (disch := omega) only [go_sem, nr_1, ia, i1a, i1s]; refine K25 _ ?_; clear K26 K25; refine n_block ?_; refine n_then ?_; refine ⟨_, ?hdec, ⟨w + 1, ?hf0, ?hf1, rfl, ?heq⟩, ?hok⟩
            case heq => first | rfl | simp [St.cut, keep]
            case hf0 => exact szi_up hw hF hb2
            case hf1 => omega
            case hdec => omega
            case hok => refine ⟨rfl, ?_, ?_⟩ <;> first | rfl | (simp [keep, PV.lt, PE.lt, PC.lt, Box.lt, ↓lC_lt]; done) | simp [keep, PV.lt, PE.lt, PC.lt, Box.lt, ↓lC_lt, ↓intC_lt, ↓ratC_lt, ↓u32s_lt]
          · replace hb2 := of_decide_eq_false hb2; rw [ge_iff_le, two_gef hr] at hb2; refine pwp_exit ?_; refine e_then ?_; refine e_then ?_; refine e_here ?_; refine n_then ?_; refine pwx_sr 0 [] (by rfl) fun _ K27 => ?_; simp (disch := omega) only [go_sem, nr_1, ia, i1a, i1s]; refine K27 _ ?_; clear K27; refine pwp_ret ?_; refine ⟨Or.inr rfl, ?_⟩; simp (disch := omega) only [go_sem, nr_1, ia, i1a, i1s]
            have e : w = flR a b c := (by omega); rw [e]

end Go.Proofs.YtdojhoegildiaaaGreat

set_option linter.unusedSimpArgs false
set_option linter.unusedVariables false
set_option maxRecDepth 20000
namespace Go.Proofs.YtdojhoegildiaaaGreat
open Go Go.PL Go.RL
set_option maxHeartbeats 4000000 in
theorem c_swarfref05_invert (a b c : Rat) {k l m : Nat} [SzR a k] [SzR b l] [SzR c m] (hk : k + l + m ≤ 5000) (z : b = 0 → c = 0) (hn : a * a - b * b * c ≠ 0) :
    Ret Tryz.prog 67 [.a (ratC (a) ++ (ratC (b) ++ ratC (c)))] (.e (.a (ratC (a * (1 / ((a) * (a) - (b) * (b) * c))) ++ (ratC (-b * (1 / ((a) * (a) - (b) * (b) * c))) ++ ratC (rC (-b * (1 / ((a) * (a) - (b) * (b) * c))) c))))) := by
  refine ret_of_body (md := {}) Tryz.func67 (by kernel_rfl) rfl ?_; simp only [Tryz.f67, go_sem, Nat.reduceAdd, Nat.reduceSub, List.reduceReplicate]; refine pwx_sr 2 [] (by rfl) fun _ K1 => ?_; simp (disch := omega) only [go_sem]; refine K1 _ ?_; clear K1; refine pwx_sd Tryz.mixed 1 [] (by rfl) [] (by kernel_rfl) (by simp) fun _ K2 => ?_; refine rgnX_take 5 fun _ K3 => ?_; simp (disch := omega) only [go_sem]; refine ⟨_, c_swarfref02_Mul _ _ (by omega), ?_⟩; refine K3 _ ?_; refine rgnX_take 5 fun _ K4 => ?_; simp (disch := omega) only [go_sem]; refine ⟨_, c_swarfref02_Mul _ _ (by omega), ?_⟩; refine K4 _ ?_; refine rgnX_take 3 fun _ K5 => ?_; simp (disch := omega) only [go_sem]; refine ⟨_, c_swarfref02_Mul _ _ (by omega), ?_⟩; refine K5 _ ?_; refine rgnX_take 1 fun _ K6 => ?_; simp (disch := omega) only [go_sem]; refine ⟨_, c_swarfref02_Sub _ _ (by omega), ?_⟩; refine K6 _ ?_; simp (disch := omega) only [go_sem]; refine K2 _ ?_; clear K6 K5 K4 K3 K2; refine pwx_sr 1 [] (by rfl) fun _ K7 => ?_; refine rgnX_take 4 fun _ K8 => ?_; simp (disch := omega) only [go_sem]; refine ⟨_, c_swarfref02_Div _ _ (by omega) hn, ?_⟩; refine K8 _ ?_; simp (disch := omega) only [go_sem]; refine K7 _ ?_; clear K8 K7; refine pwx_sd Tryz.mixed 1 [] (by rfl) [] (by kernel_rfl) (by simp) fun _ K9 => ?_; refine rgnX_take 3 fun _ K10 => ?_; simp (disch := omega) only [go_sem]; refine ⟨_, c_swarfref02_Neg _ (by omega), ?_⟩; refine K10 _ ?_; refine rgnX_take 2 fun _ K11 => ?_; simp (disch := omega) only [go_sem]; refine ⟨_, c_swarfref02_Div _ _ (by omega) hn, ?_⟩; refine K11 _ ?_; simp (disch := omega) only [go_sem]; refine K9 _ ?_; clear K11 K10 K9; refine pwx_sr 0 [] (by rfl) fun _ K12 => ?_; simp (disch := omega) only [go_sem]; refine K12 _ ?_; clear K12; refine pwp_ret ?_; refine ⟨Or.inr rfl, ?_⟩; simp (disch := omega) only [go_sem]
  all_goals rw [div_mul1 a, div_mul1 (-b), invC z (inv_ne hn)]
set_option maxHeartbeats 4000000 in
theorem c_rBetween_z (a b c a' b' c' : Rat) [SzR a 330] [SzR b 330] [SzR c 330] [SzR a' 330] [SzR b' 330] [SzR c' 330] (hc : Rdc b c) (hc' : Rdc b' c') (h1 : two (a - 0) b c < 0) (h2 : 0 < two (a' - 0) b' c') :
    Ret Tryz.prog 28 [.a (ratC (a) ++ (ratC (b) ++ ratC (c))), .a (ratC (a') ++ (ratC (b') ++ ratC (c')))] (.e (.a (ratC 0))) := by
  refine ret_of_body (md := {}) Tryz.func28 (by kernel_rfl) rfl ?_; simp only [Tryz.f28, go_sem, Nat.reduceAdd, Nat.reduceSub, List.reduceReplicate]; refine pwx_sr 3 [] (by rfl) fun _ K1 => ?_; simp (disch := omega) only [go_sem, ex_i0, ex_i1]; refine K1 _ ?_; clear K1; refine pwx_sr 2 [] (by rfl) fun _ K2 => ?_; refine rgnX_take 1 fun _ K3 => ?_; simp (disch := omega) only [go_sem, ex_i0, ex_i1]; refine ⟨_, c_swarfref02_FromInt64 _ (by omega) (by omega), ?_⟩; refine K3 _ ?_; refine rgnX_take 1 fun _ K4 => ?_; simp (disch := omega) only [go_sem, ex_i0, ex_i1]; refine ⟨_, c_swarfref02_FromInt64 _ (by omega) (by omega), ?_⟩; refine K4 _ ?_; simp (disch := omega) only [go_sem, ex_i0, ex_i1]; refine K2 _ ?_; clear K4 K3 K2; refine pwp_seq ?_; refine pwx_sr 0 [some 17, some 18, some 19, some 20, some 21, some 22, some 23, some 24, some 25, some 26] (by rfl) fun _ K5 => ?_; refine rgnX_take 3 fun _ K6 => ?_; simp (disch := omega) only [go_sem, ex_i0, ex_i1, h1, h2, decide_true]; refine ⟨_, c_swarfref05_CmpRat _ _ _ _ (by omega), ?_⟩; refine K6 _ ?_; refine rgnX_take 5 fun _ K7 => ?_; simp (disch := omega) only [go_sem, ex_i0, ex_i1, h1, h2, decide_true]
  first | refine ⟨_, c_swarfref05_CmpRat _ _ _ _ (by omega), ?_⟩ | skip
  refine K7 _ ?_; simp (disch := omega) only [go_sem, ex_i0, ex_i1, h1, h2, decide_true]; refine K5 _ ?_; clear K7 K6 K5; refine pwp_cond (b := true) (by rfl) (fun _ => ?_) (fun h => nomatch h); refine pwx_sr 0 [] (by rfl) fun _ K8 => ?_; simp (disch := omega) only [go_sem, ex_i0, ex_i1]; refine K8 _ ?_; clear K8; refine pwp_ret ?_; refine r_then ?_; refine ⟨Or.inr rfl, ?_⟩; simp (disch := omega) only [go_sem, ex_i0, ex_i1]
  all_goals rfl
set_option maxHeartbeats 4000000 in
theorem c_rBetween_1 (a b c a' b' c' : Rat) [SzR a 330] [SzR b 330] [SzR c 330] [SzR a' 330] [SzR b' 330] [SzR c' 330] (hc : Rdc b c) (hc' : Rdc b' c') (n : Int) (hn : flR a b c = n) [SzI n 700] (h0 : ¬ two (a - 0) b c < 0) (h1 : 0 < two (a' - ((n : Rat) + 1)) b' c') :
    Ret Tryz.prog 28 [.a (ratC (a) ++ (ratC (b) ++ ratC (c))), .a (ratC (a') ++ (ratC (b') ++ ratC (c')))] (.e (.a (ratC ((n : Rat) + 1)))) := by
  refine ret_of_body (md := {}) Tryz.func28 (by kernel_rfl) rfl ?_; simp only [Tryz.f28, go_sem, Nat.reduceAdd, Nat.reduceSub, List.reduceReplicate]
  have k0 : 0 ≤ two (a - 0) b c := by omega
  refine pwx_sr 3 [] (by rfl) fun _ K1 => ?_; simp (disch := omega) only [go_sem, ex_i0, ex_i1, hn]; refine K1 _ ?_; clear K1; refine pwx_sr 2 [] (by rfl) fun _ K2 => ?_; refine rgnX_take 1 fun _ K3 => ?_; simp (disch := omega) only [go_sem, ex_i0, ex_i1, hn]; refine ⟨_, c_swarfref02_FromInt64 _ (by omega) (by omega), ?_⟩; refine K3 _ ?_; refine rgnX_take 1 fun _ K4 => ?_; simp (disch := omega) only [go_sem, ex_i0, ex_i1, hn]; refine ⟨_, c_swarfref02_FromInt64 _ (by omega) (by omega), ?_⟩; refine K4 _ ?_; simp (disch := omega) only [go_sem, ex_i0, ex_i1, hn]; refine K2 _ ?_; clear K4 K3 K2; refine pwp_seq ?_; refine pwx_sr 0 [some 17, some 18, some 19, some 20, some 21, some 22, some 23, some 24, some 25, some 26] (by rfl) fun _ K5 => ?_; refine rgnX_take 3 fun _ K6 => ?_; simp (disch := omega) only [go_sem, ex_i0, ex_i1, hn, h0, k0, decide_false, decide_true]; refine ⟨_, c_swarfref05_CmpRat _ _ _ _ (by omega), ?_⟩; refine K6 _ ?_; refine rgnX_take 5 fun _ K7 => ?_; simp (disch := omega) only [go_sem, ex_i0, ex_i1, hn, h0, k0, decide_false, decide_true]
  first | refine ⟨_, c_swarfref05_CmpRat _ _ _ _ (by omega), ?_⟩ | skip
  refine K7 _ ?_; simp (disch := omega) only [go_sem, ex_i0, ex_i1, hn, h0, k0, decide_false, decide_true]; refine K5 _ ?_; clear K7 K6 K5; refine pwp_cond (b := false) (by rfl) (fun h => nomatch h) (fun _ => ?_); refine pwp_skip ?_; refine n_then ?_; refine pwx_sr 1 [] (by rfl) fun _ K8 => ?_; refine rgnX_take 2 fun _ K9 => ?_; simp (disch := omega) only [go_sem, ex_i0, ex_i1, hn]; refine ⟨_, c_swarfref05_Floor _ _ _ (by assumption), ?_⟩; refine K9 _ ?_; simp (disch := omega) only [go_sem, ex_i0, ex_i1, hn]; refine K8 _ ?_; clear K9 K8; refine pwx_sr 1 [] (by rfl) fun _ K10 => ?_; refine rgnX_take 3 fun _ K11 => ?_; simp (disch := omega) only [go_sem, ex_i0, ex_i1, hn]; refine ⟨_, c_swarfref02_Add _ _ (by omega), ?_⟩; refine K11 _ ?_; simp (disch := omega) only [go_sem, ex_i0, ex_i1, hn]; refine K10 _ ?_; clear K11 K10; refine pwp_seq ?_; refine pwx_sr 0 [] (by rfl) fun _ K12 => ?_; refine rgnX_take 3 fun _ K13 => ?_; simp (disch := omega) only [go_sem, ex_i0, ex_i1, hn, h1, decide_true]; refine ⟨_, c_swarfref05_CmpRat _ _ _ _ (by omega), ?_⟩; refine K13 _ ?_; simp (disch := omega) only [go_sem, ex_i0, ex_i1, hn, h1, decide_true]; refine K12 _ ?_; clear K13 K12; refine pwp_cond (b := true) (by rfl) (fun _ => ?_) (fun h => nomatch h); refine pwp_seq ?_; refine pwx_sr 0 [] (by rfl) fun _ K14 => ?_; refine rgnX_take 3 fun _ K15 => ?_; simp (disch := omega) only [go_sem, ex_i0, ex_i1, hn, k0, ge_iff_le, decide_true]; refine ⟨_, c_swarfref05_CmpRat _ _ _ _ (by omega), ?_⟩; refine K15 _ ?_; simp (disch := omega) only [go_sem, ex_i0, ex_i1, hn, k0, ge_iff_le, decide_true]; refine K14 _ ?_; clear K15 K14; refine pwp_cond (b := true) (by rfl) (fun _ => ?_) (fun h => nomatch h); refine pwx_sr 0 [] (by rfl) fun _ K16 => ?_; simp (disch := omega) only [go_sem, ex_i0, ex_i1, hn]; refine K16 _ ?_; clear K16; refine pwp_ret ?_; refine r_then ?_; refine r_then ?_; refine ⟨Or.inr rfl, ?_⟩; simp (disch := omega) only [go_sem, ex_i0, ex_i1, hn]
  all_goals rfl
set_option maxHeartbeats 4000000 in
theorem c_rBetween_2a (a b c a' b' c' : Rat) [SzR a 330] [SzR b 330] [SzR c 330] [SzR a' 330] [SzR b' 330] [SzR c' 330] (hc : Rdc b c) (hc' : Rdc b' c') (n : Int) (hn : flR a b c = n) [SzI n 700] (h0 : ¬ 0 < two (a' - 0) b' c') (k0 : two (a - 0) b c < 0) (h1 : 0 < two (a' - ((n : Rat) + 1)) b' c') (m : Int) (hm : flR a' b' c' = m) [SzI m 700] (h2 : two (a' - (m : Rat)) b' c' = 0) :
    Ret Tryz.prog 28 [.a (ratC (a) ++ (ratC (b) ++ ratC (c))), .a (ratC (a') ++ (ratC (b') ++ ratC (c')))] (.e (.a (ratC ((m : Rat) - 1)))) := by
  refine ret_of_body (md := {}) Tryz.func28 (by kernel_rfl) rfl ?_; simp only [Tryz.f28, go_sem, Nat.reduceAdd, Nat.reduceSub, List.reduceReplicate]
  have k1 : ¬ 0 ≤ two (a - 0) b c := by omega
  refine pwx_sr 3 [] (by rfl) fun _ K1 => ?_; simp (disch := omega) only [go_sem, ex_i0, ex_i1, hn, hm]; refine K1 _ ?_; clear K1; refine pwx_sr 2 [] (by rfl) fun _ K2 => ?_; refine rgnX_take 1 fun _ K3 => ?_; simp (disch := omega) only [go_sem, ex_i0, ex_i1, hn, hm]; refine ⟨_, c_swarfref02_FromInt64 _ (by omega) (by omega), ?_⟩; refine K3 _ ?_; refine rgnX_take 1 fun _ K4 => ?_; simp (disch := omega) only [go_sem, ex_i0, ex_i1, hn, hm]; refine ⟨_, c_swarfref02_FromInt64 _ (by omega) (by omega), ?_⟩; refine K4 _ ?_; simp (disch := omega) only [go_sem, ex_i0, ex_i1, hn, hm]; refine K2 _ ?_; clear K4 K3 K2; refine pwp_seq ?_; refine pwx_sr 0 [some 17, some 18, some 19, some 20, some 21, some 22, some 23, some 24, some 25, some 26] (by rfl) fun _ K5 => ?_; refine rgnX_take 3 fun _ K6 => ?_; simp (disch := omega) only [go_sem, ex_i0, ex_i1, hn, hm, h0, k0, decide_false, decide_true]; refine ⟨_, c_swarfref05_CmpRat _ _ _ _ (by omega), ?_⟩; refine K6 _ ?_; refine rgnX_take 5 fun _ K7 => ?_; simp (disch := omega) only [go_sem, ex_i0, ex_i1, hn, hm, h0, k0, decide_false, decide_true]
  first | refine ⟨_, c_swarfref05_CmpRat _ _ _ _ (by omega), ?_⟩ | skip
  refine K7 _ ?_; simp (disch := omega) only [go_sem, ex_i0, ex_i1, hn, hm, h0, k0, decide_false, decide_true]; refine K5 _ ?_; clear K7 K6 K5; refine pwp_cond (b := false) (by rfl) (fun h => nomatch h) (fun _ => ?_); refine pwp_skip ?_; refine n_then ?_; refine pwx_sr 1 [] (by rfl) fun _ K8 => ?_; refine rgnX_take 2 fun _ K9 => ?_; simp (disch := omega) only [go_sem, ex_i0, ex_i1, hn, hm]; refine ⟨_, c_swarfref05_Floor _ _ _ (by assumption), ?_⟩; refine K9 _ ?_; simp (disch := omega) only [go_sem, ex_i0, ex_i1, hn, hm]; refine K8 _ ?_; clear K9 K8; refine pwx_sr 1 [] (by rfl) fun _ K10 => ?_; refine rgnX_take 3 fun _ K11 => ?_; simp (disch := omega) only [go_sem, ex_i0, ex_i1, hn, hm]; refine ⟨_, c_swarfref02_Add _ _ (by omega), ?_⟩; refine K11 _ ?_; simp (disch := omega) only [go_sem, ex_i0, ex_i1, hn, hm]; refine K10 _ ?_; clear K11 K10; refine pwp_seq ?_; refine pwx_sr 0 [] (by rfl) fun _ K12 => ?_; refine rgnX_take 3 fun _ K13 => ?_; simp (disch := omega) only [go_sem, ex_i0, ex_i1, hn, hm, h1, decide_true]; refine ⟨_, c_swarfref05_CmpRat _ _ _ _ (by omega), ?_⟩; refine K13 _ ?_; simp (disch := omega) only [go_sem, ex_i0, ex_i1, hn, hm, h1, decide_true]; refine K12 _ ?_; clear K13 K12; refine pwp_cond (b := true) (by rfl) (fun _ => ?_) (fun h => nomatch h); refine pwp_seq ?_; refine pwx_sr 0 [] (by rfl) fun _ K14 => ?_; refine rgnX_take 3 fun _ K15 => ?_; simp (disch := omega) only [go_sem, ex_i0, ex_i1, hn, hm, k1, ge_iff_le, decide_false]; refine ⟨_, c_swarfref05_CmpRat _ _ _ _ (by omega), ?_⟩; refine K15 _ ?_; simp (disch := omega) only [go_sem, ex_i0, ex_i1, hn, hm, k1, ge_iff_le, decide_false]; refine K14 _ ?_; clear K15 K14; refine pwp_cond (b := false) (by rfl) (fun h => nomatch h) (fun _ => ?_); refine pwp_skip ?_; refine n_then ?_; refine pwx_sr 1 [] (by rfl) fun _ K16 => ?_; refine rgnX_take 2 fun _ K17 => ?_; simp (disch := omega) only [go_sem, ex_i0, ex_i1, hn, hm]; refine ⟨_, c_swarfref05_Floor _ _ _ (by assumption), ?_⟩; refine K17 _ ?_; simp (disch := omega) only [go_sem, ex_i0, ex_i1, hn, hm]; refine K16 _ ?_; clear K17 K16; refine pwp_seq ?_; refine pwx_sr 0 [] (by rfl) fun _ K18 => ?_; refine rgnX_take 3 fun _ K19 => ?_; simp (disch := omega) only [go_sem, ex_i0, ex_i1, hn, hm, h2, decide_true, decide_false]; refine ⟨_, c_swarfref05_CmpRat _ _ _ _ (by omega), ?_⟩; refine K19 _ ?_; simp (disch := omega) only [go_sem, ex_i0, ex_i1, hn, hm, h2, decide_true, decide_false]; refine K18 _ ?_; clear K19 K18; refine pwp_cond (b := true) (by rfl) (fun _ => ?_) (fun h => nomatch h); refine pwx_region 0 [] (by rfl) fun _ K20 => ?_; refine rgnX_take 3 fun _ K21 => ?_; simp (disch := omega) only [go_sem, ex_i0, ex_i1, hn, hm]; refine ⟨_, c_swarfref02_Sub _ _ (by omega), ?_⟩; refine K21 _ ?_; simp (disch := omega) only [go_sem, ex_i0, ex_i1, hn, hm]; refine K20 _ ?_; clear K21 K20; refine n_then ?_; refine pwx_sr 0 [] (by rfl) fun _ K22 => ?_; simp (disch := omega) only [go_sem, ex_i0, ex_i1, hn, hm]; refine K22 _ ?_; clear K22; refine pwp_ret ?_; refine r_then ?_; refine ⟨Or.inr rfl, ?_⟩; simp (disch := omega) only [go_sem, ex_i0, ex_i1, hn, hm]
  all_goals rfl
set_option maxHeartbeats 4000000 in
theorem c_rBetween_2b (a b c a' b' c' : Rat) [SzR a 330] [SzR b 330] [SzR c 330] [SzR a' 330] [SzR b' 330] [SzR c' 330] (hc : Rdc b c) (hc' : Rdc b' c') (n : Int) (hn : flR a b c = n) [SzI n 700] (h0 : ¬ 0 < two (a' - 0) b' c') (k0 : two (a - 0) b c < 0) (h1 : 0 < two (a' - ((n : Rat) + 1)) b' c') (m : Int) (hm : flR a' b' c' = m) [SzI m 700] (h2 : ¬ two (a' - (m : Rat)) b' c' = 0) :
    Ret Tryz.prog 28 [.a (ratC (a) ++ (ratC (b) ++ ratC (c))), .a (ratC (a') ++ (ratC (b') ++ ratC (c')))] (.e (.a (ratC (m : Rat)))) := by
  refine ret_of_body (md := {}) Tryz.func28 (by kernel_rfl) rfl ?_; simp only [Tryz.f28, go_sem, Nat.reduceAdd, Nat.reduceSub, List.reduceReplicate]
  have k1 : ¬ 0 ≤ two (a - 0) b c := by omega
  refine pwx_sr 3 [] (by rfl) fun _ K1 => ?_; simp (disch := omega) only [go_sem, ex_i0, ex_i1, hn, hm]; refine K1 _ ?_; clear K1; refine pwx_sr 2 [] (by rfl) fun _ K2 => ?_; refine rgnX_take 1 fun _ K3 => ?_; simp (disch := omega) only [go_sem, ex_i0, ex_i1, hn, hm]; refine ⟨_, c_swarfref02_FromInt64 _ (by omega) (by omega), ?_⟩; refine K3 _ ?_; refine rgnX_take 1 fun _ K4 => ?_; simp (disch := omega) only [go_sem, ex_i0, ex_i1, hn, hm]; refine ⟨_, c_swarfref02_FromInt64 _ (by omega) (by omega), ?_⟩; refine K4 _ ?_; simp (disch := omega) only [go_sem, ex_i0, ex_i1, hn, hm]; refine K2 _ ?_; clear K4 K3 K2; refine pwp_seq ?_; refine pwx_sr 0 [some 17, some 18, some 19, some 20, some 21, some 22, some 23, some 24, some 25, some 26] (by rfl) fun _ K5 => ?_; refine rgnX_take 3 fun _ K6 => ?_; simp (disch := omega) only [go_sem, ex_i0, ex_i1, hn, hm, h0, k0, decide_false, decide_true]; refine ⟨_, c_swarfref05_CmpRat _ _ _ _ (by omega), ?_⟩; refine K6 _ ?_; refine rgnX_take 5 fun _ K7 => ?_; simp (disch := omega) only [go_sem, ex_i0, ex_i1, hn, hm, h0, k0, decide_false, decide_true]
  first | refine ⟨_, c_swarfref05_CmpRat _ _ _ _ (by omega), ?_⟩ | skip
  refine K7 _ ?_; simp (disch := omega) only [go_sem, ex_i0, ex_i1, hn, hm, h0, k0, decide_false, decide_true]; refine K5 _ ?_; clear K7 K6 K5; refine pwp_cond (b := false) (by rfl) (fun h => nomatch h) (fun _ => ?_); refine pwp_skip ?_; refine n_then ?_; refine pwx_sr 1 [] (by rfl) fun _ K8 => ?_; refine rgnX_take 2 fun _ K9 => ?_; simp (disch := omega) only [go_sem, ex_i0, ex_i1, hn, hm]; refine ⟨_, c_swarfref05_Floor _ _ _ (by assumption), ?_⟩; refine K9 _ ?_; simp (disch := omega) only [go_sem, ex_i0, ex_i1, hn, hm]; refine K8 _ ?_; clear K9 K8; refine pwx_sr 1 [] (by rfl) fun _ K10 => ?_; refine rgnX_take 3 fun _ K11 => ?_; simp (disch := omega) only [go_sem, ex_i0, ex_i1, hn, hm]; refine ⟨_, c_swarfref02_Add _ _ (by omega), ?_⟩; refine K11 _ ?_; simp (disch := omega) only [go_sem, ex_i0, ex_i1, hn, hm]; refine K10 _ ?_; clear K11 K10; refine pwp_seq ?_; refine pwx_sr 0 [] (by rfl) fun _ K12 => ?_; refine rgnX_take 3 fun _ K13 => ?_; simp (disch := omega) only [go_sem, ex_i0, ex_i1, hn, hm, h1, decide_true]; refine ⟨_, c_swarfref05_CmpRat _ _ _ _ (by omega), ?_⟩; refine K13 _ ?_; simp (disch := omega) only [go_sem, ex_i0, ex_i1, hn, hm, h1, decide_true]; refine K12 _ ?_; clear K13 K12; refine pwp_cond (b := true) (by rfl) (fun _ => ?_) (fun h => nomatch h); refine pwp_seq ?_; refine pwx_sr 0 [] (by rfl) fun _ K14 => ?_; refine rgnX_take 3 fun _ K15 => ?_; simp (disch := omega) only [go_sem, ex_i0, ex_i1, hn, hm, k1, ge_iff_le, decide_false]; refine ⟨_, c_swarfref05_CmpRat _ _ _ _ (by omega), ?_⟩; refine K15 _ ?_; simp (disch := omega) only [go_sem, ex_i0, ex_i1, hn, hm, k1, ge_iff_le, decide_false]; refine K14 _ ?_; clear K15 K14; refine pwp_cond (b := false) (by rfl) (fun h => nomatch h) (fun _ => ?_); refine pwp_skip ?_; refine n_then ?_; refine pwx_sr 1 [] (by rfl) fun _ K16 => ?_; refine rgnX_take 2 fun _ K17 => ?_; simp (disch := omega) only [go_sem, ex_i0, ex_i1, hn, hm]; refine ⟨_, c_swarfref05_Floor _ _ _ (by assumption), ?_⟩; refine K17 _ ?_; simp (disch := omega) only [go_sem, ex_i0, ex_i1, hn, hm]; refine K16 _ ?_; clear K17 K16; refine pwp_seq ?_; refine pwx_sr 0 [] (by rfl) fun _ K18 => ?_; refine rgnX_take 3 fun _ K19 => ?_; simp (disch := omega) only [go_sem, ex_i0, ex_i1, hn, hm, h2, decide_true, decide_false]; refine ⟨_, c_swarfref05_CmpRat _ _ _ _ (by omega), ?_⟩; refine K19 _ ?_; simp (disch := omega) only [go_sem, ex_i0, ex_i1, hn, hm, h2, decide_true, decide_false]; refine K18 _ ?_; clear K19 K18; refine pwp_cond (b := false) (by rfl) (fun h => nomatch h) (fun _ => ?_); refine pwp_skip ?_; refine n_then ?_; refine pwx_sr 0 [] (by rfl) fun _ K20 => ?_; simp (disch := omega) only [go_sem, ex_i0, ex_i1, hn, hm]; refine K20 _ ?_; clear K20; refine pwp_ret ?_; refine r_then ?_; refine ⟨Or.inr rfl, ?_⟩; simp (disch := omega) only [go_sem, ex_i0, ex_i1, hn, hm]
  all_goals rfl
set_option maxHeartbeats 4000000 in
theorem c_rBetween_3p (a b c a' b' c' : Rat) [SzR a 330] [SzR b 330] [SzR c 330] [SzR a' 330] [SzR b' 330] [SzR c' 330] (hc : Rdc b c) (hc' : Rdc b' c') (n : Int) (hn : flR a b c = n) [SzI n 700] (h0 : ¬ two (a - 0) b c < 0) (z : b = 0 → c = 0) (z' : b' = 0 → c' = 0) (h1 : ¬ 0 < two (a' - ((n : Rat) + 1)) b' c') (h2 : two (a - (n : Rat)) b c = 0) (hN1 : ((a' - (n : Rat)) * (a' - (n : Rat)) - (b') * (b') * c') ≠ 0) (m : Int) (hm : flR ((a' - n) * (1 / ((a' - n) * (a' - n) - (b') * (b') * c'))) (-b' * (1 / ((a' - n) * (a' - n) - (b') * (b') * c'))) (rC (-b' * (1 / ((a' - n) * (a' - n) - (b') * (b') * c'))) c') = m) [SzR ((a' - n) * (1 / ((a' - n) * (a' - n) - (b') * (b') * c'))) 330] [SzR (-b' * (1 / ((a' - n) * (a' - n) - (b') * (b') * c'))) 330] [SzR (rC (-b' * (1 / ((a' - n) * (a' - n) - (b') * (b') * c'))) c') 330] (hr : Rdc (-b' * (1 / ((a' - n) * (a' - n) - (b') * (b') * c'))) (rC (-b' * (1 / ((a' - n) * (a' - n) - (b') * (b') * c'))) c')) [SzI m 1000] (hy : (m : Rat) + 1 ≠ 0) :
    Ret Tryz.prog 28 [.a (ratC (a) ++ (ratC (b) ++ ratC (c))), .a (ratC (a') ++ (ratC (b') ++ ratC (c')))] (.e (.a (ratC ((n : Rat) + 1 / ((m : Rat) + 1))))) := by
  refine ret_of_body (md := {}) Tryz.func28 (by kernel_rfl) rfl ?_; simp only [Tryz.f28, go_sem, Nat.reduceAdd, Nat.reduceSub, List.reduceReplicate]; refine pwx_sr 3 [] (by rfl) fun _ K1 => ?_; simp (disch := omega) only [go_sem, ex_i0, ex_i1, hn, hm]; refine K1 _ ?_; clear K1; refine pwx_sr 2 [] (by rfl) fun _ K2 => ?_; refine rgnX_take 1 fun _ K3 => ?_; simp (disch := omega) only [go_sem, ex_i0, ex_i1, hn, hm]; refine ⟨_, c_swarfref02_FromInt64 _ (by omega) (by omega), ?_⟩; refine K3 _ ?_; refine rgnX_take 1 fun _ K4 => ?_; simp (disch := omega) only [go_sem, ex_i0, ex_i1, hn, hm]; refine ⟨_, c_swarfref02_FromInt64 _ (by omega) (by omega), ?_⟩; refine K4 _ ?_; simp (disch := omega) only [go_sem, ex_i0, ex_i1, hn, hm]; refine K2 _ ?_; clear K4 K3 K2; refine pwp_seq ?_; refine pwx_sr 0 [some 17, some 18, some 19, some 20, some 21, some 22, some 23, some 24, some 25, some 26] (by rfl) fun _ K5 => ?_; refine rgnX_take 3 fun _ K6 => ?_; simp (disch := omega) only [go_sem, ex_i0, ex_i1, hn, hm, h0, decide_false]; refine ⟨_, c_swarfref05_CmpRat _ _ _ _ (by omega), ?_⟩; refine K6 _ ?_; refine rgnX_take 5 fun _ K7 => ?_; simp (disch := omega) only [go_sem, ex_i0, ex_i1, hn, hm, h0, decide_false]
  first | refine ⟨_, c_swarfref05_CmpRat _ _ _ _ (by omega), ?_⟩ | skip
  refine K7 _ ?_; simp (disch := omega) only [go_sem, ex_i0, ex_i1, hn, hm, h0, decide_false]; refine K5 _ ?_; clear K7 K6 K5; refine pwp_cond (b := false) (by rfl) (fun h => nomatch h) (fun _ => ?_); refine pwp_skip ?_; refine n_then ?_; refine pwx_sr 1 [] (by rfl) fun _ K8 => ?_; refine rgnX_take 2 fun _ K9 => ?_; simp (disch := omega) only [go_sem, ex_i0, ex_i1, hn, hm]; refine ⟨_, c_swarfref05_Floor _ _ _ (by assumption), ?_⟩; refine K9 _ ?_; simp (disch := omega) only [go_sem, ex_i0, ex_i1, hn, hm]; refine K8 _ ?_; clear K9 K8; refine pwx_sr 1 [] (by rfl) fun _ K10 => ?_; refine rgnX_take 3 fun _ K11 => ?_; simp (disch := omega) only [go_sem, ex_i0, ex_i1, hn, hm]; refine ⟨_, c_swarfref02_Add _ _ (by omega), ?_⟩; refine K11 _ ?_; simp (disch := omega) only [go_sem, ex_i0, ex_i1, hn, hm]; refine K10 _ ?_; clear K11 K10; refine pwp_seq ?_; refine pwx_sr 0 [] (by rfl) fun _ K12 => ?_; refine rgnX_take 3 fun _ K13 => ?_; simp (disch := omega) only [go_sem, ex_i0, ex_i1, hn, hm, h1, decide_false]; refine ⟨_, c_swarfref05_CmpRat _ _ _ _ (by omega), ?_⟩; refine K13 _ ?_; simp (disch := omega) only [go_sem, ex_i0, ex_i1, hn, hm, h1, decide_false]; refine K12 _ ?_; clear K13 K12; refine pwp_cond (b := false) (by rfl) (fun h => nomatch h) (fun _ => ?_); refine pwp_skip ?_; refine n_then ?_; refine pwx_sd Tryz.mixed 2 [] (by rfl) [] (by kernel_rfl) (by simp) fun _ K14 => ?_; refine rgnX_take 3 fun _ K15 => ?_; simp (disch := omega) only [go_sem, ex_i0, ex_i1, hn, hm]; refine ⟨_, c_swarfref05_move _ _ _ _ (by omega), ?_⟩; refine K15 _ ?_; refine rgnX_take 3 fun _ K16 => ?_; simp (disch := omega) only [go_sem, ex_i0, ex_i1, hn, hm]; refine ⟨_, c_swarfref05_move _ _ _ _ (by omega), ?_⟩; refine K16 _ ?_; simp (disch := omega) only [go_sem, ex_i0, ex_i1, hn, hm]; refine K14 _ ?_; clear K16 K15 K14; refine pwx_sr 1 [] (by rfl) fun _ K17 => ?_; simp (disch := omega) only [go_sem, ex_i0, ex_i1, hn, hm]; refine K17 _ ?_; clear K17; refine pwp_seq ?_; refine pwx_sr 0 [] (by rfl) fun _ K18 => ?_; refine rgnX_take 3 fun _ K19 => ?_; simp (disch := omega) only [go_sem, ex_i0, ex_i1, hn, hm, sub0, h2, decide_true]; refine ⟨_, c_swarfref05_CmpRat _ _ _ _ (by omega), ?_⟩; refine K19 _ ?_; simp (disch := omega) only [go_sem, ex_i0, ex_i1, hn, hm, sub0, h2, decide_true]; refine K18 _ ?_; clear K19 K18; refine pwp_cond (b := true) (by rfl) (fun _ => ?_) (fun h => nomatch h); refine pwx_draw Tryz.mixed 0 [] (by rfl) [] (by kernel_rfl) (by simp) fun _ K20 => ?_; refine rgnX_take 2 fun _ K21 => ?_; simp (disch := omega) only [go_sem, ex_i0, ex_i1, hn, hm]
  first | refine ⟨_, c_swarfref05_invert _ _ _ (by omega) z' hN1, ?_⟩ | refine ⟨_, c_swarfref05_invert _ _ _ (by omega) z hN2, ?_⟩
  refine K21 _ ?_; refine rgnX_take 1 fun _ K22 => ?_; simp (disch := omega) only [go_sem, ex_i0, ex_i1, hn, hm]; refine ⟨_, c_swarfref05_Floor _ _ _ (by assumption), ?_⟩; refine K22 _ ?_; refine rgnX_take 2 fun _ K23 => ?_; simp (disch := omega) only [go_sem, ex_i0, ex_i1, hn, hm]; refine ⟨_, c_swarfref02_Add _ _ (by omega), ?_⟩; refine K23 _ ?_; simp (disch := omega) only [go_sem, ex_i0, ex_i1, hn, hm]; refine K20 _ ?_; clear K23 K22 K21 K20; refine n_then ?_; refine pwx_sr 1 [] (by rfl) fun _ K24 => ?_; refine rgnX_take 3 fun _ K25 => ?_; simp (disch := omega) only [go_sem, ex_i0, ex_i1, hn, hm]; refine ⟨_, c_swarfref02_Div _ _ (by omega) hy, ?_⟩; refine K25 _ ?_; simp (disch := omega) only [go_sem, ex_i0, ex_i1, hn, hm]; refine K24 _ ?_; clear K25 K24; refine pwx_sr 0 [] (by rfl) fun _ K26 => ?_; refine rgnX_take 3 fun _ K27 => ?_; simp (disch := omega) only [go_sem, ex_i0, ex_i1, hn, hm]; refine ⟨_, c_swarfref02_Add _ _ (by omega), ?_⟩; refine K27 _ ?_; simp (disch := omega) only [go_sem, ex_i0, ex_i1, hn, hm]; refine K26 _ ?_; clear K27 K26; refine pwp_ret ?_; refine ⟨Or.inr rfl, ?_⟩; simp (disch := omega) only [go_sem, ex_i0, ex_i1, hn, hm]
  all_goals rfl
set_option maxHeartbeats 4000000 in
theorem c_rBetween_4p (a b c a' b' c' : Rat) [SzR a 330] [SzR b 330] [SzR c 330] [SzR a' 330] [SzR b' 330] [SzR c' 330] (hc : Rdc b c) (hc' : Rdc b' c') (n : Int) (hn : flR a b c = n) [SzI n 700] (h0 : ¬ two (a - 0) b c < 0) (z : b = 0 → c = 0) (z' : b' = 0 → c' = 0) (h1 : ¬ 0 < two (a' - ((n : Rat) + 1)) b' c') (h2 : ¬ two (a - (n : Rat)) b c = 0) (hN1 : ((a' - (n : Rat)) * (a' - (n : Rat)) - (b') * (b') * c') ≠ 0) (hN2 : ((a - (n : Rat)) * (a - (n : Rat)) - (b) * (b) * c) ≠ 0) (y : Rat) [SzR y 1000] (hy : y ≠ 0) (hr : Ret Tryz.prog 28 [.a (ratC ((a' - n) * (1 / ((a' - n) * (a' - n) - (b') * (b') * c'))) ++ (ratC (-b' * (1 / ((a' - n) * (a' - n) - (b') * (b') * c'))) ++ ratC (rC (-b' * (1 / ((a' - n) * (a' - n) - (b') * (b') * c'))) c'))), .a (ratC ((a - n) * (1 / ((a - n) * (a - n) - (b) * (b) * c))) ++ (ratC (-b * (1 / ((a - n) * (a - n) - (b) * (b) * c))) ++ ratC (rC (-b * (1 / ((a - n) * (a - n) - (b) * (b) * c))) c)))] (.e (.a (ratC y)))) :
    Ret Tryz.prog 28 [.a (ratC (a) ++ (ratC (b) ++ ratC (c))), .a (ratC (a') ++ (ratC (b') ++ ratC (c')))] (.e (.a (ratC ((n : Rat) + 1 / y)))) := by
  refine ret_of_body (md := {}) Tryz.func28 (by kernel_rfl) rfl ?_; simp only [Tryz.f28, go_sem, Nat.reduceAdd, Nat.reduceSub, List.reduceReplicate]; refine pwx_sr 3 [] (by rfl) fun _ K1 => ?_; simp (disch := omega) only [go_sem, ex_i0, ex_i1, hn]; refine K1 _ ?_; clear K1; refine pwx_sr 2 [] (by rfl) fun _ K2 => ?_; refine rgnX_take 1 fun _ K3 => ?_; simp (disch := omega) only [go_sem, ex_i0, ex_i1, hn]; refine ⟨_, c_swarfref02_FromInt64 _ (by omega) (by omega), ?_⟩; refine K3 _ ?_; refine rgnX_take 1 fun _ K4 => ?_; simp (disch := omega) only [go_sem, ex_i0, ex_i1, hn]; refine ⟨_, c_swarfref02_FromInt64 _ (by omega) (by omega), ?_⟩; refine K4 _ ?_; simp (disch := omega) only [go_sem, ex_i0, ex_i1, hn]; refine K2 _ ?_; clear K4 K3 K2; refine pwp_seq ?_; refine pwx_sr 0 [some 17, some 18, some 19, some 20, some 21, some 22, some 23, some 24, some 25, some 26] (by rfl) fun _ K5 => ?_; refine rgnX_take 3 fun _ K6 => ?_; simp (disch := omega) only [go_sem, ex_i0, ex_i1, hn, h0, decide_false]; refine ⟨_, c_swarfref05_CmpRat _ _ _ _ (by omega), ?_⟩; refine K6 _ ?_; refine rgnX_take 5 fun _ K7 => ?_; simp (disch := omega) only [go_sem, ex_i0, ex_i1, hn, h0, decide_false]
  first | refine ⟨_, c_swarfref05_CmpRat _ _ _ _ (by omega), ?_⟩ | skip
  refine K7 _ ?_; simp (disch := omega) only [go_sem, ex_i0, ex_i1, hn, h0, decide_false]; refine K5 _ ?_; clear K7 K6 K5; refine pwp_cond (b := false) (by rfl) (fun h => nomatch h) (fun _ => ?_); refine pwp_skip ?_; refine n_then ?_; refine pwx_sr 1 [] (by rfl) fun _ K8 => ?_; refine rgnX_take 2 fun _ K9 => ?_; simp (disch := omega) only [go_sem, ex_i0, ex_i1, hn]; refine ⟨_, c_swarfref05_Floor _ _ _ (by assumption), ?_⟩; refine K9 _ ?_; simp (disch := omega) only [go_sem, ex_i0, ex_i1, hn]; refine K8 _ ?_; clear K9 K8; refine pwx_sr 1 [] (by rfl) fun _ K10 => ?_; refine rgnX_take 3 fun _ K11 => ?_; simp (disch := omega) only [go_sem, ex_i0, ex_i1, hn]; refine ⟨_, c_swarfref02_Add _ _ (by omega), ?_⟩; refine K11 _ ?_; simp (disch := omega) only [go_sem, ex_i0, ex_i1, hn]; refine K10 _ ?_; clear K11 K10; refine pwp_seq ?_; refine pwx_sr 0 [] (by rfl) fun _ K12 => ?_; refine rgnX_take 3 fun _ K13 => ?_; simp (disch := omega) only [go_sem, ex_i0, ex_i1, hn, h1, decide_false]; refine ⟨_, c_swarfref05_CmpRat _ _ _ _ (by omega), ?_⟩; refine K13 _ ?_; simp (disch := omega) only [go_sem, ex_i0, ex_i1, hn, h1, decide_false]; refine K12 _ ?_; clear K13 K12; refine pwp_cond (b := false) (by rfl) (fun h => nomatch h) (fun _ => ?_); refine pwp_skip ?_; refine n_then ?_; refine pwx_sd Tryz.mixed 2 [] (by rfl) [] (by kernel_rfl) (by simp) fun _ K14 => ?_; refine rgnX_take 3 fun _ K15 => ?_; simp (disch := omega) only [go_sem, ex_i0, ex_i1, hn]; refine ⟨_, c_swarfref05_move _ _ _ _ (by omega), ?_⟩; refine K15 _ ?_; refine rgnX_take 3 fun _ K16 => ?_; simp (disch := omega) only [go_sem, ex_i0, ex_i1, hn]; refine ⟨_, c_swarfref05_move _ _ _ _ (by omega), ?_⟩; refine K16 _ ?_; simp (disch := omega) only [go_sem, ex_i0, ex_i1, hn]; refine K14 _ ?_; clear K16 K15 K14; refine pwx_sr 1 [] (by rfl) fun _ K17 => ?_; simp (disch := omega) only [go_sem, ex_i0, ex_i1, hn]; refine K17 _ ?_; clear K17; refine pwp_seq ?_; refine pwx_sr 0 [] (by rfl) fun _ K18 => ?_; refine rgnX_take 3 fun _ K19 => ?_; simp (disch := omega) only [go_sem, ex_i0, ex_i1, hn, sub0, h2, decide_false]; refine ⟨_, c_swarfref05_CmpRat _ _ _ _ (by omega), ?_⟩; refine K19 _ ?_; simp (disch := omega) only [go_sem, ex_i0, ex_i1, hn, sub0, h2, decide_false]; refine K18 _ ?_; clear K19 K18; refine pwp_cond (b := false) (by rfl) (fun h => nomatch h) (fun _ => ?_); refine pwx_draw Tryz.mixed 0 [] (by rfl) [] (by kernel_rfl) (by simp) fun _ K20 => ?_; refine rgnX_take 2 fun _ K21 => ?_; simp (disch := omega) only [go_sem, ex_i0, ex_i1, hn]
  first | refine ⟨_, c_swarfref05_invert _ _ _ (by omega) z' hN1, ?_⟩ | refine ⟨_, c_swarfref05_invert _ _ _ (by omega) z hN2, ?_⟩
  refine K21 _ ?_; refine rgnX_take 2 fun _ K22 => ?_; simp (disch := omega) only [go_sem, ex_i0, ex_i1, hn]
  first | refine ⟨_, c_swarfref05_invert _ _ _ (by omega) z' hN1, ?_⟩ | refine ⟨_, c_swarfref05_invert _ _ _ (by omega) z hN2, ?_⟩
  refine K22 _ ?_; refine rgnX_take 1 fun _ K23 => ?_; simp (disch := omega) only [go_sem, ex_i0, ex_i1, hn]; refine ⟨_, hr, ?_⟩; refine K23 _ ?_; simp (disch := omega) only [go_sem, ex_i0, ex_i1, hn]; refine K20 _ ?_; clear K23 K22 K21 K20; refine n_then ?_; refine pwx_sr 1 [] (by rfl) fun _ K24 => ?_; refine rgnX_take 3 fun _ K25 => ?_; simp (disch := omega) only [go_sem, ex_i0, ex_i1, hn]; refine ⟨_, c_swarfref02_Div _ _ (by omega) hy, ?_⟩; refine K25 _ ?_; simp (disch := omega) only [go_sem, ex_i0, ex_i1, hn]; refine K24 _ ?_; clear K25 K24; refine pwx_sr 0 [] (by rfl) fun _ K26 => ?_; refine rgnX_take 3 fun _ K27 => ?_; simp (disch := omega) only [go_sem, ex_i0, ex_i1, hn]; refine ⟨_, c_swarfref02_Add _ _ (by omega), ?_⟩; refine K27 _ ?_; simp (disch := omega) only [go_sem, ex_i0, ex_i1, hn]; refine K26 _ ?_; clear K27 K26; refine pwp_ret ?_; refine ⟨Or.inr rfl, ?_⟩; simp (disch := omega) only [go_sem, ex_i0, ex_i1, hn]
  all_goals rfl
set_option maxHeartbeats 4000000 in
theorem c_rBetween_3m (a b c a' b' c' : Rat) [SzR a 330] [SzR b 330] [SzR c 330] [SzR a' 330] [SzR b' 330] [SzR c' 330] (hc : Rdc b c) (hc' : Rdc b' c') (n : Int) (hn : flR a b c = n) [SzI n 700] (h0 : ¬ 0 < two (a' - 0) b' c') (z : b = 0 → c = 0) (z' : b' = 0 → c' = 0) (h1 : ¬ 0 < two (a' - ((n : Rat) + 1)) b' c') (h2 : two (a - (n : Rat)) b c = 0) (hN1 : ((a' - (n : Rat)) * (a' - (n : Rat)) - (b') * (b') * c') ≠ 0) (m : Int) (hm : flR ((a' - n) * (1 / ((a' - n) * (a' - n) - (b') * (b') * c'))) (-b' * (1 / ((a' - n) * (a' - n) - (b') * (b') * c'))) (rC (-b' * (1 / ((a' - n) * (a' - n) - (b') * (b') * c'))) c') = m) [SzR ((a' - n) * (1 / ((a' - n) * (a' - n) - (b') * (b') * c'))) 330] [SzR (-b' * (1 / ((a' - n) * (a' - n) - (b') * (b') * c'))) 330] [SzR (rC (-b' * (1 / ((a' - n) * (a' - n) - (b') * (b') * c'))) c') 330] (hr : Rdc (-b' * (1 / ((a' - n) * (a' - n) - (b') * (b') * c'))) (rC (-b' * (1 / ((a' - n) * (a' - n) - (b') * (b') * c'))) c')) [SzI m 1000] (hy : (m : Rat) + 1 ≠ 0) :
    Ret Tryz.prog 28 [.a (ratC (a) ++ (ratC (b) ++ ratC (c))), .a (ratC (a') ++ (ratC (b') ++ ratC (c')))] (.e (.a (ratC ((n : Rat) + 1 / ((m : Rat) + 1))))) := by
  refine ret_of_body (md := {}) Tryz.func28 (by kernel_rfl) rfl ?_; simp only [Tryz.f28, go_sem, Nat.reduceAdd, Nat.reduceSub, List.reduceReplicate]; refine pwx_sr 3 [] (by rfl) fun _ K1 => ?_; simp (disch := omega) only [go_sem, ex_i0, ex_i1, hn, hm]; refine K1 _ ?_; clear K1; refine pwx_sr 2 [] (by rfl) fun _ K2 => ?_; refine rgnX_take 1 fun _ K3 => ?_; simp (disch := omega) only [go_sem, ex_i0, ex_i1, hn, hm]; refine ⟨_, c_swarfref02_FromInt64 _ (by omega) (by omega), ?_⟩; refine K3 _ ?_; refine rgnX_take 1 fun _ K4 => ?_; simp (disch := omega) only [go_sem, ex_i0, ex_i1, hn, hm]; refine ⟨_, c_swarfref02_FromInt64 _ (by omega) (by omega), ?_⟩; refine K4 _ ?_; simp (disch := omega) only [go_sem, ex_i0, ex_i1, hn, hm]; refine K2 _ ?_; clear K4 K3 K2; refine pwp_seq ?_; by_cases k0 : two (a - 0) b c < 0
  · refine pwx_sr 0 [some 17, some 18, some 19, some 20, some 21, some 22, some 23, some 24, some 25, some 26] (by rfl) fun _ K5 => ?_; refine rgnX_take 3 fun _ K6 => ?_; simp (disch := omega) only [go_sem, ex_i0, ex_i1, hn, hm, h0, decide_false, k0, decide_true]; refine ⟨_, c_swarfref05_CmpRat _ _ _ _ (by omega), ?_⟩; refine K6 _ ?_; refine rgnX_take 5 fun _ K7 => ?_; simp (disch := omega) only [go_sem, ex_i0, ex_i1, hn, hm, h0, decide_false, k0, decide_true]
    first | refine ⟨_, c_swarfref05_CmpRat _ _ _ _ (by omega), ?_⟩ | skip
    refine K7 _ ?_; simp (disch := omega) only [go_sem, ex_i0, ex_i1, hn, hm, h0, decide_false, k0, decide_true]; refine K5 _ ?_; clear K7 K6 K5; refine pwp_cond (b := false) (by rfl) (fun h => nomatch h) (fun _ => ?_); refine pwp_skip ?_; refine n_then ?_; refine pwx_sr 1 [] (by rfl) fun _ K8 => ?_; refine rgnX_take 2 fun _ K9 => ?_; simp (disch := omega) only [go_sem, ex_i0, ex_i1, hn, hm]; refine ⟨_, c_swarfref05_Floor _ _ _ (by assumption), ?_⟩; refine K9 _ ?_; simp (disch := omega) only [go_sem, ex_i0, ex_i1, hn, hm]; refine K8 _ ?_; clear K9 K8; refine pwx_sr 1 [] (by rfl) fun _ K10 => ?_; refine rgnX_take 3 fun _ K11 => ?_; simp (disch := omega) only [go_sem, ex_i0, ex_i1, hn, hm]; refine ⟨_, c_swarfref02_Add _ _ (by omega), ?_⟩; refine K11 _ ?_; simp (disch := omega) only [go_sem, ex_i0, ex_i1, hn, hm]; refine K10 _ ?_; clear K11 K10; refine pwp_seq ?_; refine pwx_sr 0 [] (by rfl) fun _ K12 => ?_; refine rgnX_take 3 fun _ K13 => ?_; simp (disch := omega) only [go_sem, ex_i0, ex_i1, hn, hm, h1, decide_false]; refine ⟨_, c_swarfref05_CmpRat _ _ _ _ (by omega), ?_⟩; refine K13 _ ?_; simp (disch := omega) only [go_sem, ex_i0, ex_i1, hn, hm, h1, decide_false]; refine K12 _ ?_; clear K13 K12; refine pwp_cond (b := false) (by rfl) (fun h => nomatch h) (fun _ => ?_); refine pwp_skip ?_; refine n_then ?_; refine pwx_sd Tryz.mixed 2 [] (by rfl) [] (by kernel_rfl) (by simp) fun _ K14 => ?_; refine rgnX_take 3 fun _ K15 => ?_; simp (disch := omega) only [go_sem, ex_i0, ex_i1, hn, hm]; refine ⟨_, c_swarfref05_move _ _ _ _ (by omega), ?_⟩; refine K15 _ ?_; refine rgnX_take 3 fun _ K16 => ?_; simp (disch := omega) only [go_sem, ex_i0, ex_i1, hn, hm]; refine ⟨_, c_swarfref05_move _ _ _ _ (by omega), ?_⟩; refine K16 _ ?_; simp (disch := omega) only [go_sem, ex_i0, ex_i1, hn, hm]; refine K14 _ ?_; clear K16 K15 K14; refine pwx_sr 1 [] (by rfl) fun _ K17 => ?_; simp (disch := omega) only [go_sem, ex_i0, ex_i1, hn, hm]; refine K17 _ ?_; clear K17; refine pwp_seq ?_; refine pwx_sr 0 [] (by rfl) fun _ K18 => ?_; refine rgnX_take 3 fun _ K19 => ?_; simp (disch := omega) only [go_sem, ex_i0, ex_i1, hn, hm, sub0, h2, decide_true]; refine ⟨_, c_swarfref05_CmpRat _ _ _ _ (by omega), ?_⟩; refine K19 _ ?_; simp (disch := omega) only [go_sem, ex_i0, ex_i1, hn, hm, sub0, h2, decide_true]; refine K18 _ ?_; clear K19 K18; refine pwp_cond (b := true) (by rfl) (fun _ => ?_) (fun h => nomatch h); refine pwx_draw Tryz.mixed 0 [] (by rfl) [] (by kernel_rfl) (by simp) fun _ K20 => ?_; refine rgnX_take 2 fun _ K21 => ?_; simp (disch := omega) only [go_sem, ex_i0, ex_i1, hn, hm]
    first | refine ⟨_, c_swarfref05_invert _ _ _ (by omega) z' hN1, ?_⟩ | refine ⟨_, c_swarfref05_invert _ _ _ (by omega) z hN2, ?_⟩
    refine K21 _ ?_; refine rgnX_take 1 fun _ K22 => ?_; simp (disch := omega) only [go_sem, ex_i0, ex_i1, hn, hm]; refine ⟨_, c_swarfref05_Floor _ _ _ (by assumption), ?_⟩; refine K22 _ ?_; refine rgnX_take 2 fun _ K23 => ?_; simp (disch := omega) only [go_sem, ex_i0, ex_i1, hn, hm]; refine ⟨_, c_swarfref02_Add _ _ (by omega), ?_⟩; refine K23 _ ?_; simp (disch := omega) only [go_sem, ex_i0, ex_i1, hn, hm]; refine K20 _ ?_; clear K23 K22 K21 K20; refine n_then ?_; refine pwx_sr 1 [] (by rfl) fun _ K24 => ?_; refine rgnX_take 3 fun _ K25 => ?_; simp (disch := omega) only [go_sem, ex_i0, ex_i1, hn, hm]; refine ⟨_, c_swarfref02_Div _ _ (by omega) hy, ?_⟩; refine K25 _ ?_; simp (disch := omega) only [go_sem, ex_i0, ex_i1, hn, hm]; refine K24 _ ?_; clear K25 K24; refine pwx_sr 0 [] (by rfl) fun _ K26 => ?_; refine rgnX_take 3 fun _ K27 => ?_; simp (disch := omega) only [go_sem, ex_i0, ex_i1, hn, hm]; refine ⟨_, c_swarfref02_Add _ _ (by omega), ?_⟩; refine K27 _ ?_; simp (disch := omega) only [go_sem, ex_i0, ex_i1, hn, hm]; refine K26 _ ?_; clear K27 K26; refine pwp_ret ?_; refine ⟨Or.inr rfl, ?_⟩; simp (disch := omega) only [go_sem, ex_i0, ex_i1, hn, hm]
    all_goals rfl
  · refine pwx_sr 0 [some 17, some 18, some 19, some 20, some 21, some 22, some 23, some 24, some 25, some 26] (by rfl) fun _ K28 => ?_; refine rgnX_take 3 fun _ K29 => ?_; simp (disch := omega) only [go_sem, ex_i0, ex_i1, hn, hm, h0, decide_false, k0, decide_true]; refine ⟨_, c_swarfref05_CmpRat _ _ _ _ (by omega), ?_⟩; refine K29 _ ?_; refine rgnX_take 5 fun _ K30 => ?_; simp (disch := omega) only [go_sem, ex_i0, ex_i1, hn, hm, h0, decide_false, k0, decide_true]
    first | refine ⟨_, c_swarfref05_CmpRat _ _ _ _ (by omega), ?_⟩ | skip
    refine K30 _ ?_; simp (disch := omega) only [go_sem, ex_i0, ex_i1, hn, hm, h0, decide_false, k0, decide_true]; refine K28 _ ?_; clear K30 K29 K28; refine pwp_cond (b := false) (by rfl) (fun h => nomatch h) (fun _ => ?_); refine pwp_skip ?_; refine n_then ?_; refine pwx_sr 1 [] (by rfl) fun _ K31 => ?_; refine rgnX_take 2 fun _ K32 => ?_; simp (disch := omega) only [go_sem, ex_i0, ex_i1, hn, hm]; refine ⟨_, c_swarfref05_Floor _ _ _ (by assumption), ?_⟩; refine K32 _ ?_; simp (disch := omega) only [go_sem, ex_i0, ex_i1, hn, hm]; refine K31 _ ?_; clear K32 K31; refine pwx_sr 1 [] (by rfl) fun _ K33 => ?_; refine rgnX_take 3 fun _ K34 => ?_; simp (disch := omega) only [go_sem, ex_i0, ex_i1, hn, hm]; refine ⟨_, c_swarfref02_Add _ _ (by omega), ?_⟩; refine K34 _ ?_; simp (disch := omega) only [go_sem, ex_i0, ex_i1, hn, hm]; refine K33 _ ?_; clear K34 K33; refine pwp_seq ?_; refine pwx_sr 0 [] (by rfl) fun _ K35 => ?_; refine rgnX_take 3 fun _ K36 => ?_; simp (disch := omega) only [go_sem, ex_i0, ex_i1, hn, hm, h1, decide_false]; refine ⟨_, c_swarfref05_CmpRat _ _ _ _ (by omega), ?_⟩; refine K36 _ ?_; simp (disch := omega) only [go_sem, ex_i0, ex_i1, hn, hm, h1, decide_false]; refine K35 _ ?_; clear K36 K35; refine pwp_cond (b := false) (by rfl) (fun h => nomatch h) (fun _ => ?_); refine pwp_skip ?_; refine n_then ?_; refine pwx_sd Tryz.mixed 2 [] (by rfl) [] (by kernel_rfl) (by simp) fun _ K37 => ?_; refine rgnX_take 3 fun _ K38 => ?_; simp (disch := omega) only [go_sem, ex_i0, ex_i1, hn, hm]; refine ⟨_, c_swarfref05_move _ _ _ _ (by omega), ?_⟩; refine K38 _ ?_; refine rgnX_take 3 fun _ K39 => ?_; simp (disch := omega) only [go_sem, ex_i0, ex_i1, hn, hm]; refine ⟨_, c_swarfref05_move _ _ _ _ (by omega), ?_⟩; refine K39 _ ?_; simp (disch := omega) only [go_sem, ex_i0, ex_i1, hn, hm]; refine K37 _ ?_; clear K39 K38 K37; refine pwx_sr 1 [] (by rfl) fun _ K40 => ?_; simp (disch := omega) only [go_sem, ex_i0, ex_i1, hn, hm]; refine K40 _ ?_; clear K40; refine pwp_seq ?_; refine pwx_sr 0 [] (by rfl) fun _ K41 => ?_; refine rgnX_take 3 fun _ K42 => ?_; simp (disch := omega) only [go_sem, ex_i0, ex_i1, hn, hm, sub0, h2, decide_true]; refine ⟨_, c_swarfref05_CmpRat _ _ _ _ (by omega), ?_⟩; refine K42 _ ?_; simp (disch := omega) only [go_sem, ex_i0, ex_i1, hn, hm, sub0, h2, decide_true]; refine K41 _ ?_; clear K42 K41; refine pwp_cond (b := true) (by rfl) (fun _ => ?_) (fun h => nomatch h); refine pwx_draw Tryz.mixed 0 [] (by rfl) [] (by kernel_rfl) (by simp) fun _ K43 => ?_; refine rgnX_take 2 fun _ K44 => ?_; simp (disch := omega) only [go_sem, ex_i0, ex_i1, hn, hm]
    first | refine ⟨_, c_swarfref05_invert _ _ _ (by omega) z' hN1, ?_⟩ | refine ⟨_, c_swarfref05_invert _ _ _ (by omega) z hN2, ?_⟩
    refine K44 _ ?_; refine rgnX_take 1 fun _ K45 => ?_; simp (disch := omega) only [go_sem, ex_i0, ex_i1, hn, hm]; refine ⟨_, c_swarfref05_Floor _ _ _ (by assumption), ?_⟩; refine K45 _ ?_; refine rgnX_take 2 fun _ K46 => ?_; simp (disch := omega) only [go_sem, ex_i0, ex_i1, hn, hm]; refine ⟨_, c_swarfref02_Add _ _ (by omega), ?_⟩; refine K46 _ ?_; simp (disch := omega) only [go_sem, ex_i0, ex_i1, hn, hm]; refine K43 _ ?_; clear K46 K45 K44 K43; refine n_then ?_; refine pwx_sr 1 [] (by rfl) fun _ K47 => ?_; refine rgnX_take 3 fun _ K48 => ?_; simp (disch := omega) only [go_sem, ex_i0, ex_i1, hn, hm]; refine ⟨_, c_swarfref02_Div _ _ (by omega) hy, ?_⟩; refine K48 _ ?_; simp (disch := omega) only [go_sem, ex_i0, ex_i1, hn, hm]; refine K47 _ ?_; clear K48 K47; refine pwx_sr 0 [] (by rfl) fun _ K49 => ?_; refine rgnX_take 3 fun _ K50 => ?_; simp (disch := omega) only [go_sem, ex_i0, ex_i1, hn, hm]; refine ⟨_, c_swarfref02_Add _ _ (by omega), ?_⟩; refine K50 _ ?_; simp (disch := omega) only [go_sem, ex_i0, ex_i1, hn, hm]; refine K49 _ ?_; clear K50 K49; refine pwp_ret ?_; refine ⟨Or.inr rfl, ?_⟩; simp (disch := omega) only [go_sem, ex_i0, ex_i1, hn, hm]
    all_goals rfl
set_option maxHeartbeats 4000000 in
theorem c_rBetween_4m (a b c a' b' c' : Rat) [SzR a 330] [SzR b 330] [SzR c 330] [SzR a' 330] [SzR b' 330] [SzR c' 330] (hc : Rdc b c) (hc' : Rdc b' c') (n : Int) (hn : flR a b c = n) [SzI n 700] (h0 : ¬ 0 < two (a' - 0) b' c') (z : b = 0 → c = 0) (z' : b' = 0 → c' = 0) (h1 : ¬ 0 < two (a' - ((n : Rat) + 1)) b' c') (h2 : ¬ two (a - (n : Rat)) b c = 0) (hN1 : ((a' - (n : Rat)) * (a' - (n : Rat)) - (b') * (b') * c') ≠ 0) (hN2 : ((a - (n : Rat)) * (a - (n : Rat)) - (b) * (b) * c) ≠ 0) (y : Rat) [SzR y 1000] (hy : y ≠ 0) (hr : Ret Tryz.prog 28 [.a (ratC ((a' - n) * (1 / ((a' - n) * (a' - n) - (b') * (b') * c'))) ++ (ratC (-b' * (1 / ((a' - n) * (a' - n) - (b') * (b') * c'))) ++ ratC (rC (-b' * (1 / ((a' - n) * (a' - n) - (b') * (b') * c'))) c'))), .a (ratC ((a - n) * (1 / ((a - n) * (a - n) - (b) * (b) * c))) ++ (ratC (-b * (1 / ((a - n) * (a - n) - (b) * (b) * c))) ++ ratC (rC (-b * (1 / ((a - n) * (a - n) - (b) * (b) * c))) c)))] (.e (.a (ratC y)))) :
    Ret Tryz.prog 28 [.a (ratC (a) ++ (ratC (b) ++ ratC (c))), .a (ratC (a') ++ (ratC (b') ++ ratC (c')))] (.e (.a (ratC ((n : Rat) + 1 / y)))) := by
  refine ret_of_body (md := {}) Tryz.func28 (by kernel_rfl) rfl ?_; simp only [Tryz.f28, go_sem, Nat.reduceAdd, Nat.reduceSub, List.reduceReplicate]; refine pwx_sr 3 [] (by rfl) fun _ K1 => ?_; simp (disch := omega) only [go_sem, ex_i0, ex_i1, hn]; refine K1 _ ?_; clear K1; refine pwx_sr 2 [] (by rfl) fun _ K2 => ?_; refine rgnX_take 1 fun _ K3 => ?_; simp (disch := omega) only [go_sem, ex_i0, ex_i1, hn]; refine ⟨_, c_swarfref02_FromInt64 _ (by omega) (by omega), ?_⟩; refine K3 _ ?_; refine rgnX_take 1 fun _ K4 => ?_; simp (disch := omega) only [go_sem, ex_i0, ex_i1, hn]; refine ⟨_, c_swarfref02_FromInt64 _ (by omega) (by omega), ?_⟩; refine K4 _ ?_; simp (disch := omega) only [go_sem, ex_i0, ex_i1, hn]; refine K2 _ ?_; clear K4 K3 K2; refine pwp_seq ?_; by_cases k0 : two (a - 0) b c < 0
  · refine pwx_sr 0 [some 17, some 18, some 19, some 20, some 21, some 22, some 23, some 24, some 25, some 26] (by rfl) fun _ K5 => ?_; refine rgnX_take 3 fun _ K6 => ?_; simp (disch := omega) only [go_sem, ex_i0, ex_i1, hn, h0, decide_false, k0, decide_true]; refine ⟨_, c_swarfref05_CmpRat _ _ _ _ (by omega), ?_⟩; refine K6 _ ?_; refine rgnX_take 5 fun _ K7 => ?_; simp (disch := omega) only [go_sem, ex_i0, ex_i1, hn, h0, decide_false, k0, decide_true]
    first | refine ⟨_, c_swarfref05_CmpRat _ _ _ _ (by omega), ?_⟩ | skip
    refine K7 _ ?_; simp (disch := omega) only [go_sem, ex_i0, ex_i1, hn, h0, decide_false, k0, decide_true]; refine K5 _ ?_; clear K7 K6 K5; refine pwp_cond (b := false) (by rfl) (fun h => nomatch h) (fun _ => ?_); refine pwp_skip ?_; refine n_then ?_; refine pwx_sr 1 [] (by rfl) fun _ K8 => ?_; refine rgnX_take 2 fun _ K9 => ?_; simp (disch := omega) only [go_sem, ex_i0, ex_i1, hn]; refine ⟨_, c_swarfref05_Floor _ _ _ (by assumption), ?_⟩; refine K9 _ ?_; simp (disch := omega) only [go_sem, ex_i0, ex_i1, hn]; refine K8 _ ?_; clear K9 K8; refine pwx_sr 1 [] (by rfl) fun _ K10 => ?_; refine rgnX_take 3 fun _ K11 => ?_; simp (disch := omega) only [go_sem, ex_i0, ex_i1, hn]; refine ⟨_, c_swarfref02_Add _ _ (by omega), ?_⟩; refine K11 _ ?_; simp (disch := omega) only [go_sem, ex_i0, ex_i1, hn]; refine K10 _ ?_; clear K11 K10; refine pwp_seq ?_; refine pwx_sr 0 [] (by rfl) fun _ K12 => ?_; refine rgnX_take 3 fun _ K13 => ?_; simp (disch := omega) only [go_sem, ex_i0, ex_i1, hn, h1, decide_false]; refine ⟨_, c_swarfref05_CmpRat _ _ _ _ (by omega), ?_⟩; refine K13 _ ?_; simp (disch := omega) only [go_sem, ex_i0, ex_i1, hn, h1, decide_false]; refine K12 _ ?_; clear K13 K12; refine pwp_cond (b := false) (by rfl) (fun h => nomatch h) (fun _ => ?_); refine pwp_skip ?_; refine n_then ?_; refine pwx_sd Tryz.mixed 2 [] (by rfl) [] (by kernel_rfl) (by simp) fun _ K14 => ?_; refine rgnX_take 3 fun _ K15 => ?_; simp (disch := omega) only [go_sem, ex_i0, ex_i1, hn]; refine ⟨_, c_swarfref05_move _ _ _ _ (by omega), ?_⟩; refine K15 _ ?_; refine rgnX_take 3 fun _ K16 => ?_; simp (disch := omega) only [go_sem, ex_i0, ex_i1, hn]; refine ⟨_, c_swarfref05_move _ _ _ _ (by omega), ?_⟩; refine K16 _ ?_; simp (disch := omega) only [go_sem, ex_i0, ex_i1, hn]; refine K14 _ ?_; clear K16 K15 K14; refine pwx_sr 1 [] (by rfl) fun _ K17 => ?_; simp (disch := omega) only [go_sem, ex_i0, ex_i1, hn]; refine K17 _ ?_; clear K17; refine pwp_seq ?_; refine pwx_sr 0 [] (by rfl) fun _ K18 => ?_; refine rgnX_take 3 fun _ K19 => ?_; simp (disch := omega) only [go_sem, ex_i0, ex_i1, hn, sub0, h2, decide_false]; refine ⟨_, c_swarfref05_CmpRat _ _ _ _ (by omega), ?_⟩; refine K19 _ ?_; simp (disch := omega) only [go_sem, ex_i0, ex_i1, hn, sub0, h2, decide_false]; refine K18 _ ?_; clear K19 K18; refine pwp_cond (b := false) (by rfl) (fun h => nomatch h) (fun _ => ?_); refine pwx_draw Tryz.mixed 0 [] (by rfl) [] (by kernel_rfl) (by simp) fun _ K20 => ?_; refine rgnX_take 2 fun _ K21 => ?_; simp (disch := omega) only [go_sem, ex_i0, ex_i1, hn]
    first | refine ⟨_, c_swarfref05_invert _ _ _ (by omega) z' hN1, ?_⟩ | refine ⟨_, c_swarfref05_invert _ _ _ (by omega) z hN2, ?_⟩
    refine K21 _ ?_; refine rgnX_take 2 fun _ K22 => ?_; simp (disch := omega) only [go_sem, ex_i0, ex_i1, hn]
    first | refine ⟨_, c_swarfref05_invert _ _ _ (by omega) z' hN1, ?_⟩ | refine ⟨_, c_swarfref05_invert _ _ _ (by omega) z hN2, ?_⟩
    refine K22 _ ?_; refine rgnX_take 1 fun _ K23 => ?_; simp (disch := omega) only [go_sem, ex_i0, ex_i1, hn]; refine ⟨_, hr, ?_⟩; refine K23 _ ?_; simp (disch := omega) only [go_sem, ex_i0, ex_i1, hn]; refine K20 _ ?_; clear K23 K22 K21 K20; refine n_then ?_; refine pwx_sr 1 [] (by rfl) fun _ K24 => ?_; refine rgnX_take 3 fun _ K25 => ?_; simp (disch := omega) only [go_sem, ex_i0, ex_i1, hn]; refine ⟨_, c_swarfref02_Div _ _ (by omega) hy, ?_⟩; refine K25 _ ?_; simp (disch := omega) only [go_sem, ex_i0, ex_i1, hn]; refine K24 _ ?_; clear K25 K24; refine pwx_sr 0 [] (by rfl) fun _ K26 => ?_; refine rgnX_take 3 fun _ K27 => ?_; simp (disch := omega) only [go_sem, ex_i0, ex_i1, hn]; refine ⟨_, c_swarfref02_Add _ _ (by omega), ?_⟩; refine K27 _ ?_; simp (disch := omega) only [go_sem, ex_i0, ex_i1, hn]; refine K26 _ ?_; clear K27 K26; refine pwp_ret ?_; refine ⟨Or.inr rfl, ?_⟩; simp (disch := omega) only [go_sem, ex_i0, ex_i1, hn]
    all_goals rfl
  · refine pwx_sr 0 [some 17, some 18, some 19, some 20, some 21, some 22, some 23, some 24, some 25, some 26] (by rfl) fun _ K28 => ?_; refine rgnX_take 3 fun _ K29 => ?_; simp (disch := omega) only [go_sem, ex_i0, ex_i1, hn, h0, decide_false, k0, decide_true]; refine ⟨_, c_swarfref05_CmpRat _ _ _ _ (by omega), ?_⟩; refine K29 _ ?_; refine rgnX_take 5 fun _ K30 => ?_; simp (disch := omega) only [go_sem, ex_i0, ex_i1, hn, h0, decide_false, k0, decide_true]
    first | refine ⟨_, c_swarfref05_CmpRat _ _ _ _ (by omega), ?_⟩ | skip
    refine K30 _ ?_; simp (disch := omega) only [go_sem, ex_i0, ex_i1, hn, h0, decide_false, k0, decide_true]; refine K28 _ ?_; clear K30 K29 K28; refine pwp_cond (b := false) (by rfl) (fun h => nomatch h) (fun _ => ?_); refine pwp_skip ?_; refine n_then ?_; refine pwx_sr 1 [] (by rfl) fun _ K31 => ?_; refine rgnX_take 2 fun _ K32 => ?_; simp (disch := omega) only [go_sem, ex_i0, ex_i1, hn]; refine ⟨_, c_swarfref05_Floor _ _ _ (by assumption), ?_⟩; refine K32 _ ?_; simp (disch := omega) only [go_sem, ex_i0, ex_i1, hn]; refine K31 _ ?_; clear K32 K31; refine pwx_sr 1 [] (by rfl) fun _ K33 => ?_; refine rgnX_take 3 fun _ K34 => ?_; simp (disch := omega) only [go_sem, ex_i0, ex_i1, hn]; refine ⟨_, c_swarfref02_Add _ _ (by omega), ?_⟩; refine K34 _ ?_; simp (disch := omega) only [go_sem, ex_i0, ex_i1, hn]; refine K33 _ ?_; clear K34 K33; refine pwp_seq ?_; refine pwx_sr 0 [] (by rfl) fun _ K35 => ?_; refine rgnX_take 3 fun _ K36 => ?_; simp (disch := omega) only [go_sem, ex_i0, ex_i1, hn, h1, decide_false]; refine ⟨_, c_swarfref05_CmpRat _ _ _ _ (by omega), ?_⟩; refine K36 _ ?_; simp (disch := omega) only [go_sem, ex_i0, ex_i1, hn, h1, decide_false]; refine K35 _ ?_; clear K36 K35; refine pwp_cond (b := false) (by rfl) (fun h => nomatch h) (fun _ => ?_); refine pwp_skip ?_; refine n_then ?_; refine pwx_sd Tryz.mixed 2 [] (by rfl) [] (by kernel_rfl) (by simp) fun _ K37 => ?_; refine rgnX_take 3 fun _ K38 => ?_; simp (disch := omega) only [go_sem, ex_i0, ex_i1, hn]; refine ⟨_, c_swarfref05_move _ _ _ _ (by omega), ?_⟩; refine K38 _ ?_; refine rgnX_take 3 fun _ K39 => ?_; simp (disch := omega) only [go_sem, ex_i0, ex_i1, hn]; refine ⟨_, c_swarfref05_move _ _ _ _ (by omega), ?_⟩; refine K39 _ ?_; simp (disch := omega) only [go_sem, ex_i0, ex_i1, hn]; refine K37 _ ?_; clear K39 K38 K37; refine pwx_sr 1 [] (by rfl) fun _ K40 => ?_; simp (disch := omega) only [go_sem, ex_i0, ex_i1, hn]; refine K40 _ ?_; clear K40; refine pwp_seq ?_; refine pwx_sr 0 [] (by rfl) fun _ K41 => ?_; refine rgnX_take 3 fun _ K42 => ?_; simp (disch := omega) only [go_sem, ex_i0, ex_i1, hn, sub0, h2, decide_false]; refine ⟨_, c_swarfref05_CmpRat _ _ _ _ (by omega), ?_⟩; refine K42 _ ?_; simp (disch := omega) only [go_sem, ex_i0, ex_i1, hn, sub0, h2, decide_false]; refine K41 _ ?_; clear K42 K41; refine pwp_cond (b := false) (by rfl) (fun h => nomatch h) (fun _ => ?_); refine pwx_draw Tryz.mixed 0 [] (by rfl) [] (by kernel_rfl) (by simp) fun _ K43 => ?_; refine rgnX_take 2 fun _ K44 => ?_; simp (disch := omega) only [go_sem, ex_i0, ex_i1, hn]
    first | refine ⟨_, c_swarfref05_invert _ _ _ (by omega) z' hN1, ?_⟩ | refine ⟨_, c_swarfref05_invert _ _ _ (by omega) z hN2, ?_⟩
    refine K44 _ ?_; refine rgnX_take 2 fun _ K45 => ?_; simp (disch := omega) only [go_sem, ex_i0, ex_i1, hn]
    first | refine ⟨_, c_swarfref05_invert _ _ _ (by omega) z' hN1, ?_⟩ | refine ⟨_, c_swarfref05_invert _ _ _ (by omega) z hN2, ?_⟩
    refine K45 _ ?_; refine rgnX_take 1 fun _ K46 => ?_; simp (disch := omega) only [go_sem, ex_i0, ex_i1, hn]; refine ⟨_, hr, ?_⟩; refine K46 _ ?_; simp (disch := omega) only [go_sem, ex_i0, ex_i1, hn]; refine K43 _ ?_; clear K46 K45 K44 K43; refine n_then ?_; refine pwx_sr 1 [] (by rfl) fun _ K47 => ?_; refine rgnX_take 3 fun _ K48 => ?_; simp (disch := omega) only [go_sem, ex_i0, ex_i1, hn]; refine ⟨_, c_swarfref02_Div _ _ (by omega) hy, ?_⟩; refine K48 _ ?_; simp (disch := omega) only [go_sem, ex_i0, ex_i1, hn]; refine K47 _ ?_; clear K48 K47; refine pwx_sr 0 [] (by rfl) fun _ K49 => ?_; refine rgnX_take 3 fun _ K50 => ?_; simp (disch := omega) only [go_sem, ex_i0, ex_i1, hn]; refine ⟨_, c_swarfref02_Add _ _ (by omega), ?_⟩; refine K50 _ ?_; simp (disch := omega) only [go_sem, ex_i0, ex_i1, hn]; refine K49 _ ?_; clear K50 K49; refine pwp_ret ?_; refine ⟨Or.inr rfl, ?_⟩; simp (disch := omega) only [go_sem, ex_i0, ex_i1, hn]
    all_goals rfl
theorem r_rBetween {a b c a' b' c' x : Rat} (h : Bt a b c a' b' c' x) : Ret Tryz.prog 28 [.a (ratC (a) ++ (ratC (b) ++ ratC (c))), .a (ratC (a') ++ (ratC (b') ++ ratC (c')))] (.e (.a (ratC x))) := by
  induction h with
  | next e h1 => haveI := e.sa; haveI := e.sb; haveI := e.sc; haveI := e.sa'; haveI := e.sb'; haveI := e.sc'; haveI := e.sn; have h0 := Int.not_lt.2 e.h0; exact c_rBetween_1 _ _ _ _ _ _ e.hc e.hc' _ e.hn h0 h1
  | last e h1 h2 hs hN hm sA sB sC hr sm hy => haveI := e.sa; haveI := e.sb; haveI := e.sc; haveI := e.sa'; haveI := e.sb'; haveI := e.sc'; haveI := e.sn; have h0 := Int.not_lt.2 e.h0; exact c_rBetween_3p _ _ _ _ _ _ e.hc e.hc' _ e.hn h0 e.z e.z' h1 h2 hN _ hm hr hy
  | step e h1 h2 hs hN hs' hN' sA sB sC sA' sB' sC' sy hy r ih => haveI := e.sa; haveI := e.sb; haveI := e.sc; haveI := e.sa'; haveI := e.sb'; haveI := e.sc'; haveI := e.sn; have h0 := Int.not_lt.2 e.h0; exact c_rBetween_4p _ _ _ _ _ _ e.hc e.hc' _ e.hn h0 e.z e.z' h1 h2 hN hN' _ hy ih

end Go.Proofs.YtdojhoegildiaaaGreat

set_option linter.unusedSimpArgs false
set_option linter.unusedVariables false
namespace Go.PL
open Go.RL
theorem Rdc.neg {b c : Rat} (h : Rdc b c) : Rdc (-b) c := ⟨h.1, h.2.imp (fun q => by rw [q]; rfl) id⟩
theorem fits {a b c a' b' c' : Rat} [SzR a 2] [SzR b 2] [SzR c 2] [SzR a' 2] [SzR b' 2] [SzR c' 2] (hc : 0 ≤ c) (hc' : 0 ≤ c') (d : Nat) (hd : SzI (d : Int) 301) :
    ∃ K : Int, SzI K 329 ∧ Fit K d a b c ∧ Fit K d a' b' c' := by
  obtain ⟨K, s, f⟩ := Fit.start a b c hc d 301 hd
  obtain ⟨K', s', f'⟩ := Fit.start a' b' c' hc' d 301 hd
  have h1 := f.nn; have h2 := f'.nn
  exact ⟨K + K', (inferInstance : SzI (K + K') _).mono (by omega), f.monoK (by omega), f'.monoK (by omega)⟩
theorem cmpR_lt1 {a b c a' b' c' : Rat} (hc : 0 ≤ c) (hc' : 0 ≤ c') (h : cmpR a b c a' b' c' < 0) : sgn (v2 a' b' c' - v2 a b c) = 1 := by
  rw [cmpR_eq hc hc'] at h
  have e : v2 a' b' c' - v2 a b c = -(v2 a b c - v2 a' b' c') := Re.ext fun n => by simp only [Re.sub_s, Re.neg_s]; grind
  rw [e, sgn_neg]
  rcases sgn_cases (v2 a b c - v2 a' b' c') with ⟨_, q⟩ | ⟨_, q⟩ | ⟨_, q⟩ <;> omega
theorem bt_pos {a b c a' b' c' : Rat} [SzR a 2] [SzR b 2] [SzR c 2] [SzR a' 2] [SzR b' 2] [SzR c' 2] (h : Rdc b c) (h' : Rdc b' c') (z : b = 0 → c = 0) (z' : b' = 0 → c' = 0) (h0 : 0 ≤ sgn (v2 a b c)) (hs : sgn (v2 a' b' c' - v2 a b c) = 1) :
    ∃ x, Bt a b c a' b' c' x ∧ SimpP (Btw a b c a' b' c') x ∧ SzR x 700 := by
  obtain ⟨u, u1, u2, u3⟩ := dens h h'.1 hs
  obtain ⟨K, k1, k2, k3⟩ := fits (a := a) (b := b) (a' := a') (b' := b') h.1 h'.1 u.den u2
  obtain ⟨x, x1, x2⟩ := bt_all k1 u.den a b c a' b' c' u h h' z z' ((inferInstance : SzR c 2).mono (by omega)) ((inferInstance : SzR c' 2).mono (by omega)) k2 k3 h0 u1 (Nat.le_refl _) (u3.mono (by omega)) (u2.mono (by omega))
  obtain ⟨m1, m2⟩ := x2.2 u u1
  have xp : 0 ≤ x.num := by
    have q : 0 < x := v2_le0 (a := a) (b := b) (c := c) (by rw [sub0]; exact h0) x2.1.1
    exact Int.le_of_lt (num_pos_iff.2 q)
  exact ⟨x, x1, x2, (u3.le_of (by omega)).mono (by omega), (u2.le_of (x := (x.den : Int)) (by omega)).mono (by omega)⟩
theorem Btw.neg {a b c a' b' c' z : Rat} : Btw a b c a' b' c' z ↔ Btw (-a') (-b') c' (-a) (-b) c (-z) := by
  unfold Btw
  have e1 : v2 (-a' - -z) (-b') c' = -v2 (a' - z) b' c' := by rw [← v2_neg]; congr 1; grind
  have e2 : v2 (-a - -z) (-b) c = -v2 (a - z) b c := by rw [← v2_neg]; congr 1; grind
  rw [e1, e2, sgn_neg, sgn_neg]
  constructor <;> (rintro ⟨p, q⟩; exact ⟨by omega, by omega⟩)
inductive Bneg (a b c a' b' c' : Rat) : Rat → Prop where
  | next {n m : Int} (hn : flR a b c = n) (sn : SzI n 700) (h1 : 0 < two (a' - ((n : Rat) + 1)) b' c') (hm : flR a' b' c' = m) (sm : SzI m 700) (h2 : two (a' - (m : Rat)) b' c' = 0) : Bneg a b c a' b' c' ((m : Rat) - 1)
  | nextb {n m : Int} (hn : flR a b c = n) (sn : SzI n 700) (h1 : 0 < two (a' - ((n : Rat) + 1)) b' c') (hm : flR a' b' c' = m) (sm : SzI m 700) (h2 : ¬ two (a' - (m : Rat)) b' c' = 0) : Bneg a b c a' b' c' (m : Rat)
  | last {n m : Int} (hn : flR a b c = n) (sn : SzI n 700) (h1 : ¬ 0 < two (a' - ((n : Rat) + 1)) b' c') (h2 : two (a - (n : Rat)) b c = 0)
      (hN : nm a' b' c' n ≠ 0) (hm : flR (ivA a' b' c' n) (ivB a' b' c' n) (ivC a' b' c' n) = m) (sA : SzR (ivA a' b' c' n) 330) (sB : SzR (ivB a' b' c' n) 330) (sC : SzR (ivC a' b' c' n) 330)
      (hr : Rdc (ivB a' b' c' n) (ivC a' b' c' n)) (sm : SzI m 1000) (hy : (m : Rat) + 1 ≠ 0) : Bneg a b c a' b' c' ((n : Rat) + 1 / ((m : Rat) + 1))
  | step {n : Int} {y : Rat} (hn : flR a b c = n) (sn : SzI n 700) (h1 : ¬ 0 < two (a' - ((n : Rat) + 1)) b' c') (h2 : ¬ two (a - (n : Rat)) b c = 0)
      (hN : nm a' b' c' n ≠ 0) (hN' : nm a b c n ≠ 0) (sy : SzR y 1000) (hy : y ≠ 0)
      (r : Bt (ivA a' b' c' n) (ivB a' b' c' n) (ivC a' b' c' n) (ivA a b c n) (ivB a b c n) (ivC a b c n) y) : Bneg a b c a' b' c' ((n : Rat) + 1 / y)
theorem Simp.frac {I : Rat → Prop} {n : Int} {x : Rat} (hI : ∀ z, I z → (n : Rat) < z ∧ z < (n : Rat) + 1) (hx : I x) (h : ∀ z, I z → x.den ≤ z.den) : Simp I x := by
  refine ⟨hx, h, fun h1 z hz hz1 => ?_⟩
  exfalso
  obtain ⟨q1, q2⟩ := hI x hx
  rw [den1 h1] at q1 q2
  rw [i1a] at q2
  have a1 : n < x.num := by exact_mod_cast q1
  have a2 : x.num < n + 1 := by exact_mod_cast q2
  omega
theorem bneg {a b c a' b' c' : Rat} [SzR a 2] [SzR b 2] [SzR c 2] [SzR a' 2] [SzR b' 2] [SzR c' 2] (h : Rdc b c) (h' : Rdc b' c') (z : b = 0 → c = 0) (z' : b' = 0 → c' = 0) (h0 : sgn (v2 a' b' c') ≤ 0) (hs : sgn (v2 a' b' c' - v2 a b c) = 1) :
    ∃ x, Bneg a b c a' b' c' x ∧ Simp (Btw a b c a' b' c') x := by
  obtain ⟨u, u1, u2, u3⟩ := dens h h'.1 hs
  obtain ⟨K, k1, k2, k3⟩ := fits (a := a) (b := b) (a' := a') (b' := b') h.1 h'.1 u.den u2
  obtain ⟨f1, _⟩ := flR_spec (a := a) (b := b) h.1
  have f2 := flR_lt (a := a) h
  have sn : SzI (flR a b c) 700 := (flR_sz h).mono (by omega)
  obtain ⟨n, hn⟩ : ∃ n, flR a b c = n := ⟨_, rfl⟩
  rw [hn] at f1 f2 sn
  have hnz : ∀ u, Btw a b c a' b' c' u → (n : Rat) < u := fun u hu => v2_le0 f1 hu.1
  by_cases h1 : 0 < two (a' - ((n : Rat) + 1)) b' c'
  · obtain ⟨g1, _⟩ := flR_spec (a := a') (b := b') h'.1
    have g2 := flR_lt (a := a') h'
    have sm : SzI (flR a' b' c') 700 := (flR_sz h').mono (by omega)
    obtain ⟨m, hm⟩ : ∃ m, flR a' b' c' = m := ⟨_, rfl⟩
    rw [hm] at g1 g2 sm
    have h1' := h1
    rw [two_eq h'.1] at h1'
    have q1 : sgn (v2 (a' - ((n : Rat) + 1)) b' c') = 1 := by have := sgn_le_one (v2 (a' - ((n : Rat) + 1)) b' c'); omega
    -- every integer below the second root is not greater than the answer
    have fin : ∀ x : Int, Btw a b c a' b' c' (x : Rat) → (∀ v : Int, sgn (v2 (a' - (v : Rat)) b' c') = 1 → v ≤ x) → Simp (Btw a b c a' b' c') (x : Rat) := by
      intro x hx hmax
      have xneg : x < 0 := by
        have : (x : Rat) < 0 := v2_ge0 hx.2 (by rw [sub0]; exact h0)
        exact_mod_cast this
      refine ⟨hx, fun v hv => ?_, fun _ v hv hd => ?_⟩
      · have : ((x : Int) : Rat).den = 1 := rfl
        have := v.den_pos; omega
      · have e := den1 hd
        have hv2 := hv.2
        rw [e] at hv2
        have := hmax v.num hv2
        have vneg : v.num < 0 := by
          have : v < 0 := v2_ge0 hv.2 (by rw [sub0]; exact h0)
          exact num_neg_iff.2 this
        show x.natAbs ≤ v.num.natAbs
        omega
    by_cases h2 : two (a' - (m : Rat)) b' c' = 0
    · refine ⟨_, .next hn sn h1 hm sm h2, ?_⟩
      rw [two_eq h'.1] at h2
      rw [i1s]
      refine fin (m - 1) ⟨?_, ?_⟩ fun v hv => ?_
      · have hlt : (n : Rat) + 1 < (m : Rat) := v2_ge0 q1 (by omega)
        rw [i1a] at hlt
        have : n + 1 < m := by exact_mod_cast hlt
        refine v2_mono_neg f2 ?_
        rw [i1a]; exact_mod_cast (show n + 1 ≤ m - 1 by omega)
      · have e : v2 (a' - ((m - 1 : Int) : Rat)) b' c' = Re.of 1 + v2 (a' - (m : Rat)) b' c' := Re.ext fun k => by rw [← i1s]; simp only [v2, Re.add_s, Re.mul_s, Re.of_s]; grind
        rw [e, sgn_add_null _ (sgn_zero.1 h2), sgn_of1]
      · have : (v : Rat) < (m : Rat) := v2_ge0 hv (by omega)
        have : v < m := by exact_mod_cast this
        omega
    · refine ⟨_, .nextb hn sn h1 hm sm h2, ?_⟩
      rw [two_eq h'.1] at h2
      have g3 : sgn (v2 (a' - (m : Rat)) b' c') = 1 := by have := sgn_le_one (v2 (a' - (m : Rat)) b' c'); omega
      have hmx : ∀ v : Int, sgn (v2 (a' - (v : Rat)) b' c') = 1 → v ≤ m := fun v hv => by
        have : (v : Rat) < (m : Rat) + 1 := v2_ge0 hv (by omega)
        rw [i1a] at this
        have : v < m + 1 := by exact_mod_cast this
        omega
      refine fin m ⟨?_, g3⟩ hmx
      refine v2_mono_neg f2 ?_
      have := hmx (n + 1) (by rw [← i1a]; exact q1)
      rw [i1a]; exact_mod_cast this
  have h1' : sgn (v2 (a' - ((n : Rat) + 1)) b' c') ≤ 0 := by rw [two_eq h'.1] at h1; omega
  have hz1 : ∀ u, Btw a b c a' b' c' u → u < (n : Rat) + 1 := fun u hu => v2_ge0 hu.2 h1'
  have t' : sgn (v2 (a' - (n : Rat)) b' c') = 1 := v2_mono_pos u1.2 (by have := hnz u u1; grind)
  have hN : nm a' b' c' n ≠ 0 := norm_ne h' (by rw [t']; decide)
  obtain ⟨d, hd⟩ : ∃ d, u.den = d + 1 := ⟨u.den - 1, by have := u.den_pos; omega⟩
  rw [hd] at k2 k3
  have hF' := k3.step h'.1 n (by omega) (v2_one h1') rfl hN
  obtain ⟨sA, sB⟩ := hF'.size k1
  have sc : SzR c 330 := (inferInstance : SzR c 2).mono (by omega)
  have sc' : SzR c' 330 := (inferInstance : SzR c' 2).mono (by omega)
  have sC : SzR (ivC a' b' c' n) 330 := rC_sz sc' (by omega)
  have hR' : Rdc (ivB a' b' c' n) (ivC a' b' c' n) := h'.inv _
  have hP' := inv_pos h'.1 hN t'
  by_cases h2 : two (a - (n : Rat)) b c = 0
  · have h2' : sgn (v2 (a - (n : Rat)) b c) = 0 := by rwa [two_eq h.1] at h2
    obtain ⟨g1, _⟩ := flR_spec (a := ivA a' b' c' n) (b := ivB a' b' c' n) hR'.1
    have g2 := flR_lt (a := ivA a' b' c' n) hR'
    have sm : SzI (flR (ivA a' b' c' n) (ivB a' b' c' n) (ivC a' b' c' n)) 1000 := (flR_sz hR').mono (by omega)
    obtain ⟨m, hm⟩ : ∃ m, flR (ivA a' b' c' n) (ivB a' b' c' n) (ivC a' b' c' n) = m := ⟨_, rfl⟩
    rw [hm] at g1 g2 sm
    have hP1 : 0 ≤ sgn (v2 (ivA a' b' c' n - 1) (ivB a' b' c' n) (ivC a' b' c' n)) := by
      rw [inv_sgn h'.1 hN t' (by decide), show (1 : Rat) / 1 = 1 by grind]; omega
    have m0 : 0 ≤ m := by
      have q1 : (1 : Rat) < (m : Rat) + 1 := v2_le0 hP1 g2
      rw [i1a] at q1
      have : (1 : Int) < m + 1 := by exact_mod_cast q1
      omega
    have mp : (0 : Rat) < (m : Rat) + 1 := by
      rw [i1a]; exact_mod_cast (show 0 < m + 1 by omega)
    refine ⟨_, .last hn sn h1 h2 hN hm sA sB sC hR' sm (by grind), ?_⟩
    have hJ : ∀ w : Rat, 0 < w → (sgn (v2 (ivA a' b' c' n - w) (ivB a' b' c' n) (ivC a' b' c' n)) = -1 ↔ Btw a b c a' b' c' ((n : Rat) + 1 / w)) := by
      intro w hw
      have hwi := div_pos (show (0 : Rat) < 1 by decide) hw
      rw [inv_sgn h'.1 hN t' hw]
      constructor
      · intro q
        refine ⟨?_, by omega⟩
        have q1 : sgn (-v2 (a - (n : Rat)) b c + Re.of (1 / w)) = 1 :=
          (nonneg_add (x := -v2 (a - (n : Rat)) b c) (y := Re.of (1 / w)) (by rw [sgn_neg]; omega) (nn_of.2 (Rat.le_of_lt hwi))).2.1 (.inr (by rw [sgn_of, sgnQ_pos hwi]; decide))
        have q2 : v2 (a - ((n : Rat) + 1 / w)) b c = -(-v2 (a - (n : Rat)) b c + Re.of (1 / w)) := Re.ext fun k => by simp only [v2, Re.add_s, Re.mul_s, Re.of_s, Re.neg_s]; grind
        rw [q2, sgn_neg, q1]
      · intro q; have := q.2; omega
    have hy := SimpP.next (I := fun w => 0 < w ∧ sgn (v2 (ivA a' b' c' n - w) (ivB a' b' c' n) (ivC a' b' c' n)) = -1) (n := m) ⟨by rw [Rat.intCast_add, ic1]; exact mp, by rw [Rat.intCast_add, ic1]; exact g2⟩ m0 (fun u hu => v2_le0 g1 hu.2)
    rw [Rat.intCast_add, ic1] at hy
    obtain ⟨r1, r2⟩ := SimpP.den_step (I := Btw a b c a' b' c') (n := n) (fun w hw => ⟨fun q => (hJ w hw).1 q.2, fun q => ⟨hw, (hJ w hw).2 q⟩⟩) hnz mp hy
    exact Simp.frac (fun v hv => ⟨hnz v hv, hz1 v hv⟩) r1 fun v hv => (r2 v hv).1
  · have t : sgn (v2 (a - (n : Rat)) b c) = 1 := by
      rw [two_eq h.1] at h2
      have := sgn_le_one (v2 (a - (n : Rat)) b c); omega
    have hN0 : nm a b c n ≠ 0 := norm_ne h (by rw [t]; decide)
    have hF := k2.step h.1 n f1 (v2_one (by omega)) rfl hN0
    have sC0 : SzR (ivC a b c n) 330 := rC_sz sc (by omega)
    have hJ : ∀ w : Rat, 0 < w → (Btw (ivA a' b' c' n) (ivB a' b' c' n) (ivC a' b' c' n) (ivA a b c n) (ivB a b c n) (ivC a b c n) w ↔ Btw a b c a' b' c' ((n : Rat) + 1 / w)) := by
      intro w hw
      unfold Btw
      rw [inv_sgn h'.1 hN t' hw, inv_sgn h.1 hN0 t hw]
      constructor
      · intro q; exact ⟨by omega, by omega⟩
      · intro q; exact ⟨by omega, by omega⟩
    have hJ0 : ∀ w : Rat, Btw (ivA a' b' c' n) (ivB a' b' c' n) (ivC a' b' c' n) (ivA a b c n) (ivB a b c n) (ivC a b c n) w → 0 < w := fun w hw =>
      v2_le0 (a := ivA a' b' c' n) (b := ivB a' b' c' n) (c := ivC a' b' c' n) (by rw [sub0]; omega) hw.1
    obtain ⟨w0, w1, w2, w3⟩ := step_den (hnz u u1) (hz1 u u1)
    have hw := (hJ _ w0).2 (by rw [w1]; exact u1)
    have su : SzI (u.den : Int) 700 := u2.mono (by omega)
    obtain ⟨y, y1, y2⟩ := bt_all k1 d _ _ _ _ _ _ _ hR' (h.inv _) (fun q => rC_z q) (fun q => rC_z q) sC sC0 hF' hF (nn_1 hP') hw (by omega) (su.le_of (by omega)) (su.le_of (by omega))
    have yp := hJ0 y y2.1
    obtain ⟨v1, v2'⟩ := y2.2 _ hw
    have yn := num_pos_iff.2 yp
    have sy : SzR y 1000 := ⟨(su.le_of (x := y.num) (by omega)).mono (by omega), (su.le_of (x := (y.den : Int)) (by omega)).mono (by omega)⟩
    refine ⟨_, .step hn sn h1 h2 hN hN0 sy (by grind) y1, ?_⟩
    obtain ⟨r1, r2⟩ := SimpP.den_step (I := Btw a b c a' b' c') (n := n) hJ hnz yp y2
    exact Simp.frac (fun v hv => ⟨hnz v hv, hz1 v hv⟩) r1 fun v hv => (r2 v hv).1
end Go.PL

set_option linter.unusedSimpArgs false
set_option linter.unusedVariables false
set_option maxRecDepth 20000
namespace Go.Proofs.YtdojhoegildiaaaGreat
open Go Go.PL Go.RL
theorem r_bneg {a b c a' b' c' x : Rat} [SzR a 2] [SzR b 2] [SzR c 2] [SzR a' 2] [SzR b' 2] [SzR c' 2] (h : Rdc b c) (h' : Rdc b' c') (z : b = 0 → c = 0) (z' : b' = 0 → c' = 0) (h0 : ¬ 0 < two (a' - 0) b' c') (k0 : two (a - 0) b c < 0) (hx : Bneg a b c a' b' c' x) : Ret Tryz.prog 28 [.a (ratC (a) ++ (ratC (b) ++ ratC (c))), .a (ratC (a') ++ (ratC (b') ++ ratC (c')))] (.e (.a (ratC x))) := by
  haveI i330_0 : SzR a 330 := (inferInstance : SzR a 2).mono (by omega)
  haveI i330_1 : SzR b 330 := (inferInstance : SzR b 2).mono (by omega)
  haveI i330_2 : SzR c 330 := (inferInstance : SzR c 2).mono (by omega)
  haveI i330_3 : SzR a' 330 := (inferInstance : SzR a' 2).mono (by omega)
  haveI i330_4 : SzR b' 330 := (inferInstance : SzR b' 2).mono (by omega)
  haveI i330_5 : SzR c' 330 := (inferInstance : SzR c' 2).mono (by omega)
  cases hx with
  | next hn sn h1 hm sm h2 => exact c_rBetween_2a _ _ _ _ _ _ h h' _ hn h0 k0 h1 _ hm h2
  | nextb hn sn h1 hm sm h2 => exact c_rBetween_2b _ _ _ _ _ _ h h' _ hn h0 k0 h1 _ hm h2
  | last hn sn h1 h2 hN hm sA sB sC hr sm hy => exact c_rBetween_3m _ _ _ _ _ _ h h' _ hn h0 z z' h1 h2 hN _ hm hr hy
  | step hn sn h1 h2 hN hN' sy hy r => exact c_rBetween_4m _ _ _ _ _ _ h h' _ hn h0 z z' h1 h2 hN hN' _ hy (r_rBetween r)
theorem betweens {a b c a' b' c' : Rat} [SzR a 2] [SzR b 2] [SzR c 2] [SzR a' 2] [SzR b' 2] [SzR c' 2] (h : Rdc b c) (h' : Rdc b' c') (z : b = 0 → c = 0) (z' : b' = 0 → c' = 0) (hlt : cmpR a b c a' b' c' < 0) :
    ∃ x, SzR x 700 ∧ Simp (Btw a b c a' b' c') x ∧ Ret Tryz.prog 23 [.a (ratC (a) ++ (ratC (b) ++ ratC (c))), .a (ratC (a') ++ (ratC (b') ++ ratC (c')))] (.t [.a (ratC x), .c (.int .i64 0)]) ∧ Ret Tryz.prog 28 [.a (ratC (a) ++ (ratC (b) ++ ratC (c))), .a (ratC (a') ++ (ratC (b') ++ ratC (c')))] (.e (.a (ratC x))) := by
  have hs := cmpR_lt1 h.1 h'.1 hlt
  have hlt' : ¬ 0 ≤ cmpR a b c a' b' c' := by omega
  have e0 : sgn (v2 a b c) = two (a - 0) b c := by rw [two_eq h.1, sub0]
  have e1 : sgn (v2 a' b' c') = two (a' - 0) b' c' := by rw [two_eq h'.1, sub0]
  by_cases k1 : two (a - 0) b c < 0
  · by_cases k2 : 0 < two (a' - 0) b' c'
    · refine ⟨0, (inferInstance : SzR (0 : Rat) 1).mono (by omega), ⟨⟨?_, ?_⟩, fun v _ => v.den_pos, fun _ v _ _ => Nat.zero_le _⟩, c_Between_1 _ _ _ _ _ _ h.1 h'.1 hlt' k1 k2, ?_⟩
      · rw [two_eq h.1] at k1
        rcases sgn_cases (v2 (a - 0) b c) with ⟨_, q⟩ | ⟨_, q⟩ | ⟨_, q⟩ <;> omega
      · rw [two_eq h'.1] at k2
        have := sgn_le_one (v2 (a' - 0) b' c'); omega
      · haveI : SzR a 330 := (inferInstance : SzR a 2).mono (by omega)
        haveI : SzR b 330 := (inferInstance : SzR b 2).mono (by omega)
        haveI : SzR c 330 := (inferInstance : SzR c 2).mono (by omega)
        haveI : SzR a' 330 := (inferInstance : SzR a' 2).mono (by omega)
        haveI : SzR b' 330 := (inferInstance : SzR b' 2).mono (by omega)
        haveI : SzR c' 330 := (inferInstance : SzR c' 2).mono (by omega)
        exact c_rBetween_z _ _ _ _ _ _ h h' k1 k2
    · obtain ⟨x, x1, x2⟩ := bneg h h' z z' (by omega) hs
      haveI n1 : SzR (-a') 2 := inferInstance
      haveI n2 : SzR (-b') 2 := inferInstance
      haveI n3 : SzR (-a) 2 := inferInstance
      haveI n4 : SzR (-b) 2 := inferInstance
      obtain ⟨y, y1, y2, y3⟩ := bt_pos (a := -a') (b := -b') (c := c') (a' := -a) (b' := -b) (c' := c) h'.neg h.neg (fun q => z' (by grind)) (fun q => z (by grind)) (by rw [v2_neg, sgn_neg]; omega)
        (by
          have e : v2 (-a) (-b) c - v2 (-a') (-b') c' = v2 a' b' c' - v2 a b c := Re.ext fun n => by rw [v2_neg, v2_neg]; simp only [Re.sub_s, Re.neg_s]; grind
          rw [e]; exact hs)
      have ys : Simp (Btw (-a') (-b') c' (-a) (-b) c) y := y2.simp fun u hu => Rat.le_of_lt (v2_le0 (a := -a') (b := -b') (c := c') (by rw [sub0, v2_neg, sgn_neg]; omega) hu.1)
      have e : x = -y := Simp.uniq (fun u v w => Btw.conv) x2 (ys.neg fun u => Btw.neg)
      have hx := r_bneg h h' z z' k2 k1 x1
      subst e
      haveI := y3
      exact ⟨-y, inferInstance, x2, c_Between_2 _ _ _ _ _ _ h.1 h'.1 hlt' k2 (by omega) y (r_between y1), hx⟩
  · obtain ⟨x, x1, x2, x3⟩ := bt_pos h h' z z' (by omega) hs
    haveI := x3
    have hp : ¬ two (a' - 0) b' c' ≤ 0 := by
      have q : 0 < x := v2_le0 (a := a) (b := b) (c := c) (by rw [sub0]; omega) x2.1.1
      have := v2_mono_pos x2.1.2 (Rat.le_of_lt q)
      rw [two_eq h'.1, this]; decide
    exact ⟨x, x3, x2.simp fun u hu => Rat.le_of_lt (v2_le0 (a := a) (b := b) (c := c) (by rw [sub0]; omega) hu.1), c_Between_3 _ _ _ _ _ _ h.1 h'.1 hlt' k1 hp x (r_between x1), r_rBetween x1⟩

end Go.Proofs.YtdojhoegildiaaaGreat

namespace Go.PL
open Go.RL
section
variable {n0 n1 n2 n3 n4 n5 n6 n7 n8 n9 : Bool} {l0 l1 l2 l3 l4 l5 l6 l7 l8 l9 : List Nat} {a b c d e : Rat} {sz bs : Nat} {ag : Bool} {zz : Option (List PC)} {t : TypeId} {k : IntKind}
end
def five_at (p0 p1 p2 p3 p4 : Prop) : Nat → Prop
  | 0 => p0
  | 1 => p1
  | 2 => p2
  | 3 => p3
  | _ => p4
end Go.PL

set_option linter.unusedSimpArgs false
set_option linter.unusedVariables false
namespace Go.PL
open Go.RL
theorem flat_drop {s : Nat} {E : List (List PC)} (hE : ∀ x ∈ E, x.length = s) : ∀ {u : Nat} {x : List PC}, E[u]? = some x → (E.flatten.drop (u * s)).take s = x := by
  induction E with
  | nil => intro u x h; simp at h
  | cons y E ih =>
    intro u x h
    have hy := hE y (List.mem_cons_self ..)
    cases u with
    | zero =>
      simp at h; subst h
      rw [Nat.zero_mul, List.drop_zero, List.flatten_cons, List.take_append_of_le_length (by omega), List.take_of_length_le (by omega)]
    | succ u =>
      rw [List.flatten_cons, show (u + 1) * s = y.length + u * s by rw [hy, Nat.add_mul, Nat.one_mul, Nat.add_comm], List.drop_append, List.drop_of_length_le (by omega), List.nil_append, show y.length + u * s - y.length = u * s by omega]
      exact ih (fun z hz => hE z (List.mem_cons_of_mem _ hz)) (by simpa using h)
theorem idx_flat {s : Nat} {E : List (List PC)} (hE : ∀ x ∈ E, x.length = s) {u n : Nat} {x : List PC} (h : E[u]? = some x) (hn : n = E.length) {sz bs ag zz e k} :
    indexA ⟨sz, bs, ag, zz, .slice e⟩ s (some (.c (.sl n E.flatten))) (some (.c (.int k (u : Int)))) = some (.iptr x) := by
  have hu : u < n := by rw [hn]; exact (List.getElem?_eq_some_iff.1 h).1
  show (if (0 : Int) ≤ (u : Int) ∧ (u : Int) < ((n : Nat) : Int) then some (PC.iptr ((E.flatten.drop ((u : Int).toNat * s)).take s)) else none) = _
  rw [if_pos (by omega), Int.toNat_natCast, flat_drop hE h]
structure RR where
  n1 : Bool
  l1 : List Nat
  n2 : Bool
  l2 : List Nat
def RR.c (r : RR) : List PC := [.bool r.n1, lC r.l1, .bool r.n2, lC r.l2]
def RR.sml (k : Nat) (r : RR) : Bool := smlR k r.n1 r.l1 r.n2 r.l2
def RR.of (q : Rat) : RR := ⟨decide (q.num < 0), limbs q.num.natAbs, decide ((q.den : Int) < 0), limbs ((q.den : Int)).natAbs⟩
def flatR (L : List RR) : List PC := (L.map RR.c).flatten
theorem idxR {L : List RR} {u : Nat} {r : RR} (h : L[u]? = some r) {sz bs ag zz e k} :
    indexA ⟨sz, bs, ag, zz, .slice e⟩ 4 (some (.c (.sl L.length (flatR L)))) (some (.c (.int k (u : Int)))) = some (.iptr [.bool r.n1, lC r.l1, .bool r.n2, lC r.l2]) := by
  refine idx_flat (E := L.map RR.c) (fun x hx => ?_) (by rw [List.getElem?_map, h]; rfl) (by simp)
  obtain ⟨r, _, rfl⟩ := List.mem_map.1 hx
  rfl
theorem take_all {L : List RR} {u : Nat} {r : RR} {p : RR → Bool} (h : L[u]? = some r) (h' : (L.take u).all p = true) (hr : p r = true) : (L.take (u + 1)).all p = true := by
  rw [List.take_add_one, h, List.all_append, h']; simpa using hr
theorem all_no {L : List RR} {u : Nat} {r : RR} {p : RR → Bool} (h : L[u]? = some r) (hr : p r = false) : L.all p = false := by
  rw [List.all_eq_false]
  exact ⟨r, List.mem_of_getElem? h, by rw [hr]; simp⟩
theorem flatR_ne {L : List RR} {u : Nat} {r : RR} (h : L[u]? = some r) : (flatR L = []) = False := by
  cases L with
  | nil => simp at h
  | cons a L => simp [flatR, RR.c]
theorem flatR_im (L : List RR) : (flatR L).all PC.im = true := by
  induction L with
  | nil => rfl
  | cons a L ih => simp only [flatR, List.map_cons, List.flatten_cons, List.all_append] at ih ⊢; rw [ih]; rfl
theorem flatR_nm (L : List RR) : (flatR L).map PC.norm = flatR L := by
  induction L with
  | nil => rfl
  | cons a L ih => simp only [flatR, List.map_cons, List.flatten_cons, List.map_append] at ih ⊢; rw [ih]; rfl
theorem few_cases {u : Nat} {L : List RR} (h : u < L.length) : ∃ r, L[u]? = some r ∧ ((2 < r.l1.length) ∨ (r.l1.length ≤ 2 ∧ 2 < r.l2.length) ∨ (r.l1.length ≤ 2 ∧ r.l2.length ≤ 2 ∧ vldR r.n1 r.l1 r.n2 r.l2 = false) ∨ (r.l1.length ≤ 2 ∧ r.l2.length ≤ 2 ∧ vldR r.n1 r.l1 r.n2 r.l2 = true)) := by
  refine ⟨L[u], List.getElem?_eq_getElem h, ?_⟩
  generalize L[u] = r
  have h1 := Nat.lt_or_ge 2 r.l1.length
  have h2 := Nat.lt_or_ge 2 r.l2.length
  rcases h1 with h1 | h1
  · exact .inl h1
  rcases h2 with h2 | h2
  · exact .inr (.inl ⟨h1, h2⟩)
  rcases h3 : vldR r.n1 r.l1 r.n2 r.l2 with _ | _
  · exact .inr (.inr (.inl ⟨h1, h2, rfl⟩))
  · exact .inr (.inr (.inr ⟨h1, h2, rfl⟩))
theorem sml_1 {k : Nat} {r : RR} (h : k < r.l1.length) : r.sml k = false := by simp [RR.sml, smlR]; omega
theorem sml_2 {k : Nat} {r : RR} (h : k < r.l2.length) : r.sml k = false := by simp [RR.sml, smlR]; omega
theorem sml_3 {k : Nat} {r : RR} (h : vldR r.n1 r.l1 r.n2 r.l2 = false) : r.sml k = false := by simp [RR.sml, smlR, h]
theorem sml_4 {k : Nat} {r : RR} (h1 : r.l1.length ≤ k) (h2 : r.l2.length ≤ k) (h : vldR r.n1 r.l1 r.n2 r.l2 = true) : r.sml k = true := by simp [RR.sml, smlR, h, h1, h2]
theorem sml_true {k : Nat} {r : RR} (h : r.sml k = true) : ∃ q : Rat, SzR q k ∧ r = RR.of q := by
  obtain ⟨q, h1, h2, h3, h4, h5⟩ := smlR_true h
  refine ⟨q, h1, ?_⟩
  cases r; subst h2; subst h3; subst h4; subst h5; rfl
theorem RR.of_sml (q : Rat) {k : Nat} [SzR q k] : (RR.of q).sml k = true := smlR_rat q
theorem vld3_rdc {b c : Rat} (h : vld3 b c = true) : Rdc b c ∧ (b = 0 → c = 0) := by
  unfold vld3 at h
  split at h
  · rename_i q
    simp only [Bool.and_eq_true, decide_eq_true_eq] at h
    exact ⟨⟨by rw [h.2]; exact Rat.le_refl, .inl h.1⟩, fun _ => h.2⟩
  · rename_i q
    simp only [Bool.and_eq_true, decide_eq_true_eq, Bool.not_eq_true'] at h
    exact ⟨⟨Rat.le_of_lt h.1, .inr h.2⟩, fun k => absurd (.inl k) q⟩
end Go.PL

set_option linter.unusedSimpArgs false
set_option linter.unusedVariables false
set_option maxRecDepth 20000
namespace Go.Proofs.YtdojhoegildiaaaGreat
open Go Go.PL Go.RL
set_option maxHeartbeats 4000000 in
theorem c_Few (L : List RR) (hL : L.length ≤ 1000) :
    Ret Tryz.prog 11 [.c (.sl L.length (flatR L))] (.e (.c (.bool (L.all (RR.sml 2))))) := by
  refine ret_of_body (md := {}) Tryz.func11 (by kernel_rfl) rfl ?_; simp only [Tryz.f11, go_sem, Nat.reduceAdd, Nat.reduceSub, List.reduceReplicate]; refine pwx_sr 0 [] (by rfl) fun _ K1 => ?_; simp (disch := omega) only [go_sem, flatR_im, flatR_nm]; refine K1 _ ?_; clear K1; refine pwp_seq ?_; refine pwx_sr 0 [] (by rfl) fun _ K2 => ?_; simp (disch := omega) only [go_sem, flatR_im, flatR_nm]; refine K2 _ ?_; clear K2; refine pwp_block ?_; refine pwp_loopF (true :: false :: true :: true :: false :: false :: false :: false :: false :: false :: false :: false :: false :: false :: false :: false :: false :: false :: false :: false :: false :: false :: false :: false :: false :: false :: false :: false :: false :: false :: false :: false :: false :: false :: false :: false :: []) 0 (fun M s => ∃ u : Nat, (u ≤ L.length) ∧ ((L.take u).all (RR.sml 2) = true) ∧ L.length - u = M ∧ s = { slots := .e (.c (.sl L.length (flatR L))) :: .j :: .e (.c (.bool false)) :: .e (.c (.int .i64 (u : Int))) :: .j :: .j :: .j :: .j :: .j :: .j :: .j :: .j :: .j :: .j :: .j :: .j :: .j :: .j :: .j :: .j :: .j :: .j :: .j :: .j :: .j :: .j :: .j :: .j :: .j :: .j :: .j :: .j :: .j :: .j :: .j :: .j :: [], st := [] }) (n := L.length) rfl ?_ ?_ ?_
  · refine ⟨0, ?_, ?_, rfl, ?_⟩
    · omega
    · rfl
    · first | rfl | simp [St.cut, keep]
  · refine ⟨rfl, ?_, ?_⟩ <;> first | rfl | (simp [keep, PV.lt, PE.lt, PC.lt, Box.lt, ↓lC_lt]; done) | simp [keep, PV.lt, PE.lt, PC.lt, Box.lt, ↓lC_lt, ↓intC_lt, ↓ratC_lt, ↓u32s_lt]
  · rintro _ _ ⟨u, hu, ha, rfl, rfl⟩
    refine pwp_seq ?_; refine pwx_sr 0 [] (by rfl) fun _ K3 => ?_; simp (disch := omega) only [go_sem, flatR_im, flatR_nm]; refine K3 _ ?_; clear K3; refine pwp_cond (b := _) (by rfl) (fun hb0 => ?_) (fun hb0 => ?_)
    · replace hb0 := of_decide_eq_true hb0
      have hlt : u < L.length := by omega
      refine pwp_skip ?_; refine n_then ?_; refine pwp_seq ?_; refine pwp_block ?_; obtain ⟨r, hr, h1 | ⟨h1, h2⟩ | ⟨h1, h2, h3⟩ | ⟨h1, h2, h3⟩⟩ := few_cases hlt
      · have hne := flatR_ne hr; have hix := @idxR L u r hr; refine pwx_sr 0 [some 10, some 11, some 12, some 13, some 14, some 15, some 16, some 17, some 18, some 19, some 20, some 21, some 22, some 23, some 24, some 25, some 26, some 27, some 28, some 29, some 30, some 31, some 32, some 33, some 34, some 35] (by rfl) fun _ K4 => ?_; refine rgnX_take 24 fun _ K5 => ?_; simp (disch := omega) only [go_sem, flatR_im, flatR_nm, hix, hne, ilt_T]
        first | refine ⟨_, c_swarfref02_Valid _ _ _ _ (by omega) (by omega), ?_⟩ | skip
        refine K5 _ ?_; simp (disch := omega) only [go_sem, flatR_im, flatR_nm, hix, hne, ilt_T]; refine K4 _ ?_; clear K5 K4; refine pwp_cond (b := true) (by rfl) (fun _ => ?_) (fun h => nomatch h); refine pwx_sr 0 [] (by rfl) fun _ K6 => ?_; simp (disch := omega) only [go_sem, flatR_im, flatR_nm]; refine K6 _ ?_; clear K6; refine pwp_ret ?_; refine r_block ?_; refine r_then ?_; refine r_then ?_; refine r_block ?_; refine r_then ?_; refine ⟨Or.inr rfl, ?_⟩; simp (disch := omega) only [go_sem, flatR_im, flatR_nm]; exact (all_no hr (sml_1 h1))
      · have hne := flatR_ne hr; have hix := @idxR L u r hr; refine pwx_sr 0 [some 10, some 11, some 12, some 13, some 14, some 15, some 16, some 17, some 18, some 19, some 20, some 21, some 22, some 23, some 24, some 25, some 26, some 27, some 28, some 29, some 30, some 31, some 32, some 33, some 34, some 35] (by rfl) fun _ K7 => ?_; refine rgnX_take 24 fun _ K8 => ?_; simp (disch := omega) only [go_sem, flatR_im, flatR_nm, hix, hne, ilt_T, ilt_F]
        first | refine ⟨_, c_swarfref02_Valid _ _ _ _ (by omega) (by omega), ?_⟩ | skip
        refine K8 _ ?_; simp (disch := omega) only [go_sem, flatR_im, flatR_nm, hix, hne, ilt_T, ilt_F]; refine K7 _ ?_; clear K8 K7; refine pwp_cond (b := true) (by rfl) (fun _ => ?_) (fun h => nomatch h); refine pwx_sr 0 [] (by rfl) fun _ K9 => ?_; simp (disch := omega) only [go_sem, flatR_im, flatR_nm]; refine K9 _ ?_; clear K9; refine pwp_ret ?_; refine r_block ?_; refine r_then ?_; refine r_then ?_; refine r_block ?_; refine r_then ?_; refine ⟨Or.inr rfl, ?_⟩; simp (disch := omega) only [go_sem, flatR_im, flatR_nm]; exact (all_no hr (sml_2 h2))
      · have hne := flatR_ne hr; have hix := @idxR L u r hr; refine pwx_sr 0 [some 10, some 11, some 12, some 13, some 14, some 15, some 16, some 17, some 18, some 19, some 20, some 21, some 22, some 23, some 24, some 25, some 26, some 27, some 28, some 29, some 30, some 31, some 32, some 33, some 34, some 35] (by rfl) fun _ K10 => ?_; refine rgnX_take 24 fun _ K11 => ?_; simp (disch := omega) only [go_sem, flatR_im, flatR_nm, hix, hne, ilt_F, h3]
        first | refine ⟨_, c_swarfref02_Valid _ _ _ _ (by omega) (by omega), ?_⟩ | skip
        refine K11 _ ?_; simp (disch := omega) only [go_sem, flatR_im, flatR_nm, hix, hne, ilt_F, h3]; refine K10 _ ?_; clear K11 K10; refine pwp_cond (b := true) (by rfl) (fun _ => ?_) (fun h => nomatch h); refine pwx_sr 0 [] (by rfl) fun _ K12 => ?_; simp (disch := omega) only [go_sem, flatR_im, flatR_nm]; refine K12 _ ?_; clear K12; refine pwp_ret ?_; refine r_block ?_; refine r_then ?_; refine r_then ?_; refine r_block ?_; refine r_then ?_; refine ⟨Or.inr rfl, ?_⟩; simp (disch := omega) only [go_sem, flatR_im, flatR_nm]; exact (all_no hr (sml_3 h3))
      · have hne := flatR_ne hr; have hix := @idxR L u r hr; refine pwx_sr 0 [some 10, some 11, some 12, some 13, some 14, some 15, some 16, some 17, some 18, some 19, some 20, some 21, some 22, some 23, some 24, some 25, some 26, some 27, some 28, some 29, some 30, some 31, some 32, some 33, some 34, some 35] (by rfl) fun _ K13 => ?_; refine rgnX_take 24 fun _ K14 => ?_; simp (disch := omega) only [go_sem, flatR_im, flatR_nm, hix, hne, ilt_F, h3]
        first | refine ⟨_, c_swarfref02_Valid _ _ _ _ (by omega) (by omega), ?_⟩ | skip
        refine K14 _ ?_; simp (disch := omega) only [go_sem, flatR_im, flatR_nm, hix, hne, ilt_F, h3]; refine K13 _ ?_; clear K14 K13; refine pwp_cond (b := false) (by rfl) (fun h => nomatch h) (fun _ => ?_); refine pwp_skip ?_; refine n_block ?_; refine n_then ?_; refine pwx_region 0 [] (by rfl) fun _ K15 => ?_; simp (disch := omega) only [go_sem, flatR_im, flatR_nm]; refine K15 _ ?_; clear K15; refine n_then ?_; refine ⟨_, ?hdec, ⟨u + 1, ?hf0, ?hf1, rfl, ?heq⟩, ?hok⟩
        case heq => first | rfl | simp [St.cut, keep]
        case hf0 => omega
        case hf1 => exact take_all hr ha (sml_4 h1 h2 h3)
        case hdec => omega
        case hok => refine ⟨rfl, ?_, ?_⟩ <;> first | rfl | (simp [keep, PV.lt, PE.lt, PC.lt, Box.lt, ↓lC_lt]; done) | simp [keep, PV.lt, PE.lt, PC.lt, Box.lt, ↓lC_lt, ↓intC_lt, ↓ratC_lt, ↓u32s_lt]
    · replace hb0 := of_decide_eq_false hb0
      obtain rfl : u = L.length := by omega
      refine pwp_exit ?_; refine e_then ?_; refine e_then ?_; refine e_here ?_; refine n_then ?_; refine pwx_sr 0 [] (by rfl) fun _ K16 => ?_; simp (disch := omega) only [go_sem, flatR_im, flatR_nm]; refine K16 _ ?_; clear K16; refine pwp_ret ?_; refine ⟨Or.inr rfl, ?_⟩; simp (disch := omega) only [go_sem, flatR_im, flatR_nm]
      rw [List.take_length] at ha; exact ha
theorem c_Few1_f (n0 n1 : Bool) (l0 l1 : List Nat) (h : [RR.mk n0 l0 n1 l1].all (RR.sml 2) = false) : Ret Tryz.prog 11 [.c (.sl 1 [.bool n0, lC l0, .bool n1, lC l1])] (.e (.c (.bool false))) := by
  have q := c_Few [RR.mk n0 l0 n1 l1] (by simp); rw [h] at q; exact q
theorem c_Few1_t (q0 : Rat) [SzR q0 2] : Ret Tryz.prog 11 [.c (.sl 1 (ratC q0))] (.e (.c (.bool true))) := by
  have q := c_Few [RR.of q0] (by simp); rw [show [RR.of q0].all (RR.sml 2) = true by simp [RR.of_sml]] at q; exact q
theorem few1_or (n0 n1 : Bool) (l0 l1 : List Nat) : Ret Tryz.prog 11 [.c (.sl 1 [.bool n0, lC l0, .bool n1, lC l1])] (.e (.c (.bool false))) ∨ ∃ q0 : Rat, SzR q0 2 ∧ ([.bool n0, lC l0, .bool n1, lC l1] : List PC) = ratC q0 ∧ Ret Tryz.prog 11 [.c (.sl 1 (ratC q0))] (.e (.c (.bool true))) := by
  rcases h : [RR.mk n0 l0 n1 l1].all (RR.sml 2) with _ | _
  · exact .inl (c_Few1_f n0 n1 l0 l1 h)
  · simp only [List.all_cons, List.all_nil, Bool.and_true, Bool.and_eq_true] at h
    have h0 := h
    obtain ⟨q0, s0, e0⟩ := sml_true h0; cases e0
    exact .inr ⟨q0, s0, rfl, c_Few1_t _⟩
theorem c_Few3_f (n0 n1 n2 n3 n4 n5 : Bool) (l0 l1 l2 l3 l4 l5 : List Nat) (h : [RR.mk n0 l0 n1 l1, RR.mk n2 l2 n3 l3, RR.mk n4 l4 n5 l5].all (RR.sml 2) = false) : Ret Tryz.prog 11 [.c (.sl 3 [.bool n0, lC l0, .bool n1, lC l1, .bool n2, lC l2, .bool n3, lC l3, .bool n4, lC l4, .bool n5, lC l5])] (.e (.c (.bool false))) := by
  have q := c_Few [RR.mk n0 l0 n1 l1, RR.mk n2 l2 n3 l3, RR.mk n4 l4 n5 l5] (by simp); rw [h] at q; exact q
theorem c_Few3_t (q0 q1 q2 : Rat) [SzR q0 2] [SzR q1 2] [SzR q2 2] : Ret Tryz.prog 11 [.c (.sl 3 (ratC q0 ++ (ratC q1 ++ ratC q2)))] (.e (.c (.bool true))) := by
  have q := c_Few [RR.of q0, RR.of q1, RR.of q2] (by simp); rw [show [RR.of q0, RR.of q1, RR.of q2].all (RR.sml 2) = true by simp [RR.of_sml]] at q; exact q
theorem few3_or (n0 n1 n2 n3 n4 n5 : Bool) (l0 l1 l2 l3 l4 l5 : List Nat) : Ret Tryz.prog 11 [.c (.sl 3 [.bool n0, lC l0, .bool n1, lC l1, .bool n2, lC l2, .bool n3, lC l3, .bool n4, lC l4, .bool n5, lC l5])] (.e (.c (.bool false))) ∨ ∃ q0 q1 q2 : Rat, SzR q0 2 ∧ SzR q1 2 ∧ SzR q2 2 ∧ ([.bool n0, lC l0, .bool n1, lC l1, .bool n2, lC l2, .bool n3, lC l3, .bool n4, lC l4, .bool n5, lC l5] : List PC) = ratC q0 ++ (ratC q1 ++ ratC q2) ∧ Ret Tryz.prog 11 [.c (.sl 3 (ratC q0 ++ (ratC q1 ++ ratC q2)))] (.e (.c (.bool true))) := by
  rcases h : [RR.mk n0 l0 n1 l1, RR.mk n2 l2 n3 l3, RR.mk n4 l4 n5 l5].all (RR.sml 2) with _ | _
  · exact .inl (c_Few3_f n0 n1 n2 n3 n4 n5 l0 l1 l2 l3 l4 l5 h)
  · simp only [List.all_cons, List.all_nil, Bool.and_true, Bool.and_eq_true] at h
    obtain ⟨h0, h1, h2⟩ := h
    obtain ⟨q0, s0, e0⟩ := sml_true h0; cases e0
    obtain ⟨q1, s1, e1⟩ := sml_true h1; cases e1
    obtain ⟨q2, s2, e2⟩ := sml_true h2; cases e2
    exact .inr ⟨q0, q1, q2, s0, s1, s2, rfl, c_Few3_t _ _ _⟩
theorem c_Few4_f (n0 n1 n2 n3 n4 n5 n6 n7 : Bool) (l0 l1 l2 l3 l4 l5 l6 l7 : List Nat) (h : [RR.mk n0 l0 n1 l1, RR.mk n2 l2 n3 l3, RR.mk n4 l4 n5 l5, RR.mk n6 l6 n7 l7].all (RR.sml 2) = false) : Ret Tryz.prog 11 [.c (.sl 4 [.bool n0, lC l0, .bool n1, lC l1, .bool n2, lC l2, .bool n3, lC l3, .bool n4, lC l4, .bool n5, lC l5, .bool n6, lC l6, .bool n7, lC l7])] (.e (.c (.bool false))) := by
  have q := c_Few [RR.mk n0 l0 n1 l1, RR.mk n2 l2 n3 l3, RR.mk n4 l4 n5 l5, RR.mk n6 l6 n7 l7] (by simp); rw [h] at q; exact q
theorem c_Few4_t (q0 q1 q2 q3 : Rat) [SzR q0 2] [SzR q1 2] [SzR q2 2] [SzR q3 2] : Ret Tryz.prog 11 [.c (.sl 4 (ratC q0 ++ (ratC q1 ++ (ratC q2 ++ ratC q3))))] (.e (.c (.bool true))) := by
  have q := c_Few [RR.of q0, RR.of q1, RR.of q2, RR.of q3] (by simp); rw [show [RR.of q0, RR.of q1, RR.of q2, RR.of q3].all (RR.sml 2) = true by simp [RR.of_sml]] at q; exact q
theorem few4_or (n0 n1 n2 n3 n4 n5 n6 n7 : Bool) (l0 l1 l2 l3 l4 l5 l6 l7 : List Nat) : Ret Tryz.prog 11 [.c (.sl 4 [.bool n0, lC l0, .bool n1, lC l1, .bool n2, lC l2, .bool n3, lC l3, .bool n4, lC l4, .bool n5, lC l5, .bool n6, lC l6, .bool n7, lC l7])] (.e (.c (.bool false))) ∨ ∃ q0 q1 q2 q3 : Rat, SzR q0 2 ∧ SzR q1 2 ∧ SzR q2 2 ∧ SzR q3 2 ∧ ([.bool n0, lC l0, .bool n1, lC l1, .bool n2, lC l2, .bool n3, lC l3, .bool n4, lC l4, .bool n5, lC l5, .bool n6, lC l6, .bool n7, lC l7] : List PC) = ratC q0 ++ (ratC q1 ++ (ratC q2 ++ ratC q3)) ∧ Ret Tryz.prog 11 [.c (.sl 4 (ratC q0 ++ (ratC q1 ++ (ratC q2 ++ ratC q3))))] (.e (.c (.bool true))) := by
  rcases h : [RR.mk n0 l0 n1 l1, RR.mk n2 l2 n3 l3, RR.mk n4 l4 n5 l5, RR.mk n6 l6 n7 l7].all (RR.sml 2) with _ | _
  · exact .inl (c_Few4_f n0 n1 n2 n3 n4 n5 n6 n7 l0 l1 l2 l3 l4 l5 l6 l7 h)
  · simp only [List.all_cons, List.all_nil, Bool.and_true, Bool.and_eq_true] at h
    obtain ⟨h0, h1, h2, h3⟩ := h
    obtain ⟨q0, s0, e0⟩ := sml_true h0; cases e0
    obtain ⟨q1, s1, e1⟩ := sml_true h1; cases e1
    obtain ⟨q2, s2, e2⟩ := sml_true h2; cases e2
    obtain ⟨q3, s3, e3⟩ := sml_true h3; cases e3
    exact .inr ⟨q0, q1, q2, q3, s0, s1, s2, s3, rfl, c_Few4_t _ _ _ _⟩
set_option maxHeartbeats 4000000 in
theorem c_rSmall_f (n0 n1 n2 n3 n4 n5 : Bool) (l0 l1 l2 l3 l4 l5 : List Nat) (h1 : Ret Tryz.prog 11 [.c (.sl 3 [.bool n0, lC l0, .bool n1, lC l1, .bool n2, lC l2, .bool n3, lC l3, .bool n4, lC l4, .bool n5, lC l5])] (.e (.c (.bool false)))) :
    Ret Tryz.prog 17 [.a [.bool n0, lC l0, .bool n1, lC l1, .bool n2, lC l2, .bool n3, lC l3, .bool n4, lC l4, .bool n5, lC l5]] (.e (.c (.bool false))) := by
  refine ret_of_body (md := {}) Tryz.func17 (by kernel_rfl) rfl ?_; simp only [Tryz.f17, go_sem, Nat.reduceAdd, Nat.reduceSub, List.reduceReplicate]; refine pwx_sr 1 [] (by rfl) fun _ K1 => ?_; simp (disch := omega) only [go_sem]; refine K1 _ ?_; clear K1; refine pwp_seq ?_; refine pwx_sr 1 [] (by rfl) fun _ K2 => ?_; refine rgnX_take 8 fun _ K3 => ?_; simp (disch := omega) only [go_sem]; refine ⟨_, h1, ?_⟩; refine K3 _ ?_; simp (disch := omega) only [go_sem]; refine K2 _ ?_; clear K3 K2; refine pwp_cond (b := true) (by rfl) (fun _ => ?_) (fun h => nomatch h); refine pwx_sr 0 [] (by rfl) fun _ K4 => ?_; simp (disch := omega) only [go_sem]; refine K4 _ ?_; clear K4; refine pwp_ret ?_; refine r_then ?_; refine ⟨Or.inr rfl, ?_⟩; simp (disch := omega) only [go_sem]
set_option maxHeartbeats 4000000 in
theorem c_rSmall (a b c : Rat) [SzR a 2] [SzR b 2] [SzR c 2] :
    Ret Tryz.prog 17 [.a (ratC (a) ++ (ratC (b) ++ ratC (c)))] (.e (.c (.bool (vld3 b c)))) := by
  refine ret_of_body (md := {}) Tryz.func17 (by kernel_rfl) rfl ?_; simp only [Tryz.f17, go_sem, Nat.reduceAdd, Nat.reduceSub, List.reduceReplicate]; refine pwx_sr 1 [] (by rfl) fun _ K1 => ?_; simp (disch := omega) only [go_sem]; refine K1 _ ?_; clear K1; refine pwp_seq ?_; refine pwx_sr 1 [] (by rfl) fun _ K2 => ?_; refine rgnX_take 8 fun _ K3 => ?_; simp (disch := omega) only [go_sem]; refine ⟨_, c_Few3_t _ _ _, ?_⟩; refine K3 _ ?_; simp (disch := omega) only [go_sem]; refine K2 _ ?_; clear K3 K2; refine pwp_cond (b := false) (by rfl) (fun h => nomatch h) (fun _ => ?_); refine pwp_skip ?_; refine n_then ?_; refine pwp_seq ?_
  by_cases hb0 : b = 0 <;> by_cases hc0 : c = 0
  · have hbd := decide_eq_true hb0; have hcd := decide_eq_true hc0; refine pwx_sr 0 [some 14, some 15, some 16, some 17, some 18, some 19, some 20, some 21, some 22, some 23] (by rfl) fun _ K4 => ?_; refine rgnX_take 3 fun _ K5 => ?_; simp (disch := omega) only [go_sem, hbd, hcd]; refine ⟨_, c_swarfref02_Sign _, ?_⟩; refine K5 _ ?_; refine rgnX_take 5 fun _ K6 => ?_; simp (disch := omega) only [go_sem, hbd, hcd]
    first | refine ⟨_, c_swarfref02_Sign _, ?_⟩ | skip
    refine K6 _ ?_; simp (disch := omega) only [go_sem, hbd, hcd]; refine K4 _ ?_; clear K6 K5 K4; refine pwp_cond (b := true) (by rfl) (fun _ => ?_) (fun h => nomatch h); refine pwx_sr 0 [some 24, some 25, some 26, some 27, some 28, some 29, some 30, some 31, some 32, some 33, some 2] (by rfl) fun _ K7 => ?_; refine rgnX_take 3 fun _ K8 => ?_; simp (disch := omega) only [go_sem, hbd, hcd]; refine ⟨_, c_swarfref02_Sign _, ?_⟩; refine K8 _ ?_; refine rgnX_take 5 fun _ K9 => ?_; simp (disch := omega) only [go_sem, hbd, hcd]
    first | refine ⟨_, c_swarfref02_Sign _, ?_⟩ | skip
    refine K9 _ ?_; simp (disch := omega) only [go_sem, hbd, hcd]; refine K7 _ ?_; clear K9 K8 K7; refine pwp_ret ?_; refine r_then ?_; refine ⟨Or.inr rfl, ?_⟩; simp (disch := omega) only [go_sem]
    all_goals simp_all [vld3]
  · have hbd := decide_eq_true hb0; have hcd := decide_eq_false hc0; refine pwx_sr 0 [some 14, some 15, some 16, some 17, some 18, some 19, some 20, some 21, some 22, some 23] (by rfl) fun _ K10 => ?_; refine rgnX_take 3 fun _ K11 => ?_; simp (disch := omega) only [go_sem, hbd, hcd]; refine ⟨_, c_swarfref02_Sign _, ?_⟩; refine K11 _ ?_; refine rgnX_take 5 fun _ K12 => ?_; simp (disch := omega) only [go_sem, hbd, hcd]
    first | refine ⟨_, c_swarfref02_Sign _, ?_⟩ | skip
    refine K12 _ ?_; simp (disch := omega) only [go_sem, hbd, hcd]; refine K10 _ ?_; clear K12 K11 K10; refine pwp_cond (b := true) (by rfl) (fun _ => ?_) (fun h => nomatch h); refine pwx_sr 0 [some 24, some 25, some 26, some 27, some 28, some 29, some 30, some 31, some 32, some 33, some 2] (by rfl) fun _ K13 => ?_; refine rgnX_take 3 fun _ K14 => ?_; simp (disch := omega) only [go_sem, hbd, hcd]; refine ⟨_, c_swarfref02_Sign _, ?_⟩; refine K14 _ ?_; refine rgnX_take 5 fun _ K15 => ?_; simp (disch := omega) only [go_sem, hbd, hcd]
    first | refine ⟨_, c_swarfref02_Sign _, ?_⟩ | skip
    refine K15 _ ?_; simp (disch := omega) only [go_sem, hbd, hcd]; refine K13 _ ?_; clear K15 K14 K13; refine pwp_ret ?_; refine r_then ?_; refine ⟨Or.inr rfl, ?_⟩; simp (disch := omega) only [go_sem]
    all_goals simp_all [vld3]
  · have hbd := decide_eq_false hb0; have hcd := decide_eq_true hc0; refine pwx_sr 0 [some 14, some 15, some 16, some 17, some 18, some 19, some 20, some 21, some 22, some 23] (by rfl) fun _ K16 => ?_; refine rgnX_take 3 fun _ K17 => ?_; simp (disch := omega) only [go_sem, hbd, hcd]; refine ⟨_, c_swarfref02_Sign _, ?_⟩; refine K17 _ ?_; refine rgnX_take 5 fun _ K18 => ?_; simp (disch := omega) only [go_sem, hbd, hcd]
    first | refine ⟨_, c_swarfref02_Sign _, ?_⟩ | skip
    refine K18 _ ?_; simp (disch := omega) only [go_sem, hbd, hcd]; refine K16 _ ?_; clear K18 K17 K16; refine pwp_cond (b := true) (by rfl) (fun _ => ?_) (fun h => nomatch h); refine pwx_sr 0 [some 24, some 25, some 26, some 27, some 28, some 29, some 30, some 31, some 32, some 33, some 2] (by rfl) fun _ K19 => ?_; refine rgnX_take 3 fun _ K20 => ?_; simp (disch := omega) only [go_sem, hbd, hcd]; refine ⟨_, c_swarfref02_Sign _, ?_⟩; refine K20 _ ?_; refine rgnX_take 5 fun _ K21 => ?_; simp (disch := omega) only [go_sem, hbd, hcd]
    first | refine ⟨_, c_swarfref02_Sign _, ?_⟩ | skip
    refine K21 _ ?_; simp (disch := omega) only [go_sem, hbd, hcd]; refine K19 _ ?_; clear K21 K20 K19; refine pwp_ret ?_; refine r_then ?_; refine ⟨Or.inr rfl, ?_⟩; simp (disch := omega) only [go_sem]
    all_goals simp_all [vld3]
  · have hbd := decide_eq_false hb0; have hcd := decide_eq_false hc0; refine pwx_sr 0 [some 14, some 15, some 16, some 17, some 18, some 19, some 20, some 21, some 22, some 23] (by rfl) fun _ K22 => ?_; refine rgnX_take 3 fun _ K23 => ?_; simp (disch := omega) only [go_sem, hbd, hcd]; refine ⟨_, c_swarfref02_Sign _, ?_⟩; refine K23 _ ?_; refine rgnX_take 5 fun _ K24 => ?_; simp (disch := omega) only [go_sem, hbd, hcd]
    first | refine ⟨_, c_swarfref02_Sign _, ?_⟩ | skip
    refine K24 _ ?_; simp (disch := omega) only [go_sem, hbd, hcd]; refine K22 _ ?_; clear K24 K23 K22; refine pwp_cond (b := false) (by rfl) (fun h => nomatch h) (fun _ => ?_); refine pwp_skip ?_; refine n_then ?_
    rcases hs : sqB c with _ | _
    · refine pwx_sr 1 [] (by rfl) fun _ K25 => ?_; refine rgnX_take 3 fun _ K26 => ?_; simp (disch := omega) only [go_sem, hs]
      first | refine ⟨_, c_swarfref02_Sqrt_f _ (by omega) hs, ?_⟩ | refine ⟨_, c_swarfref02_Sqrt_t _ (by omega) hs, ?_⟩
      refine K26 _ ?_; simp (disch := omega) only [go_sem, hs]; refine K25 _ ?_; clear K26 K25; by_cases hcp : 0 < c
      · have hcpd := decide_eq_true hcp; refine pwx_sr 0 [some 40, some 41, some 42, some 43, some 44, some 45, some 46, some 47, some 2] (by rfl) fun _ K27 => ?_; refine rgnX_take 3 fun _ K28 => ?_; simp (disch := omega) only [go_sem, hcpd, hs]; refine ⟨_, c_swarfref02_Sign _, ?_⟩; refine K28 _ ?_; simp (disch := omega) only [go_sem, hcpd, hs]; refine K27 _ ?_; clear K28 K27; refine pwp_ret ?_; refine ⟨Or.inr rfl, ?_⟩; simp (disch := omega) only [go_sem]
        all_goals simp_all [vld3]
      · have hcpd := decide_eq_false hcp; refine pwx_sr 0 [some 40, some 41, some 42, some 43, some 44, some 45, some 46, some 47, some 2] (by rfl) fun _ K29 => ?_; refine rgnX_take 3 fun _ K30 => ?_; simp (disch := omega) only [go_sem, hcpd, hs]; refine ⟨_, c_swarfref02_Sign _, ?_⟩; refine K30 _ ?_; simp (disch := omega) only [go_sem, hcpd, hs]; refine K29 _ ?_; clear K30 K29; refine pwp_ret ?_; refine ⟨Or.inr rfl, ?_⟩; simp (disch := omega) only [go_sem]
        all_goals simp_all [vld3]
    · refine pwx_sr 1 [] (by rfl) fun _ K31 => ?_; refine rgnX_take 3 fun _ K32 => ?_; simp (disch := omega) only [go_sem, hs]
      first | refine ⟨_, c_swarfref02_Sqrt_f _ (by omega) hs, ?_⟩ | refine ⟨_, c_swarfref02_Sqrt_t _ (by omega) hs, ?_⟩
      refine K32 _ ?_; simp (disch := omega) only [go_sem, hs]; refine K31 _ ?_; clear K32 K31; by_cases hcp : 0 < c
      · have hcpd := decide_eq_true hcp; refine pwx_sr 0 [some 40, some 41, some 42, some 43, some 44, some 45, some 46, some 47, some 2] (by rfl) fun _ K33 => ?_; refine rgnX_take 3 fun _ K34 => ?_; simp (disch := omega) only [go_sem, hcpd, hs]; refine ⟨_, c_swarfref02_Sign _, ?_⟩; refine K34 _ ?_; simp (disch := omega) only [go_sem, hcpd, hs]; refine K33 _ ?_; clear K34 K33; refine pwp_ret ?_; refine ⟨Or.inr rfl, ?_⟩; simp (disch := omega) only [go_sem]
        all_goals simp_all [vld3]
      · have hcpd := decide_eq_false hcp; refine pwx_sr 0 [some 40, some 41, some 42, some 43, some 44, some 45, some 46, some 47, some 2] (by rfl) fun _ K35 => ?_; refine rgnX_take 3 fun _ K36 => ?_; simp (disch := omega) only [go_sem, hcpd, hs]; refine ⟨_, c_swarfref02_Sign _, ?_⟩; refine K36 _ ?_; simp (disch := omega) only [go_sem, hcpd, hs]; refine K35 _ ?_; clear K36 K35; refine pwp_ret ?_; refine ⟨Or.inr rfl, ?_⟩; simp (disch := omega) only [go_sem]
        all_goals simp_all [vld3]
theorem rsmall_or (n0 n1 n2 n3 n4 n5 : Bool) (l0 l1 l2 l3 l4 l5 : List Nat) : Ret Tryz.prog 17 [.a [.bool n0, lC l0, .bool n1, lC l1, .bool n2, lC l2, .bool n3, lC l3, .bool n4, lC l4, .bool n5, lC l5]] (.e (.c (.bool false))) ∨ ∃ a b c : Rat, SzR a 2 ∧ SzR b 2 ∧ SzR c 2 ∧ vld3 b c = true ∧ ([.bool n0, lC l0, .bool n1, lC l1, .bool n2, lC l2, .bool n3, lC l3, .bool n4, lC l4, .bool n5, lC l5] : List PC) = (ratC a ++ (ratC b ++ ratC c)) ∧ Ret Tryz.prog 17 [.a (ratC a ++ (ratC b ++ ratC c))] (.e (.c (.bool true))) := by
  rcases few3_or n0 n1 n2 n3 n4 n5 l0 l1 l2 l3 l4 l5 with h | ⟨a, b, c, ha, hb, hc, e, h⟩
  · exact .inl (c_rSmall_f n0 n1 n2 n3 n4 n5 l0 l1 l2 l3 l4 l5 h)
  rw [e]
  rcases hv : vld3 b c with _ | _
  · left; rw [← hv]; exact c_rSmall a b c
  · refine .inr ⟨a, b, c, ha, hb, hc, hv, rfl, ?_⟩
    have q := c_rSmall a b c
    rw [hv] at q
    exact q

end Go.Proofs.YtdojhoegildiaaaGreat

set_option linter.unusedSimpArgs false
set_option linter.unusedVariables false
namespace Go.PL
open Go.RL
instance : SzR 4 1 := ⟨szi_lit (by decide), szi_lit (by decide)⟩
instance : SzR 25 1 := ⟨szi_lit (by decide), szi_lit (by decide)⟩
instance : SzR (-3) 1 := ⟨szi_lit (by decide), szi_lit (by decide)⟩
theorem nu_0 : ((0 : Int) : Rat) = 0 := rfl
theorem nu_1 : ((1 : Int) : Rat) = 1 := rfl
theorem nu_2 : ((2 : Int) : Rat) = 2 := rfl
theorem nu_3 : ((3 : Int) : Rat) = 3 := rfl
theorem nu_4 : ((4 : Int) : Rat) = 4 := rfl
theorem nu_5 : ((5 : Int) : Rat) = 5 := rfl
theorem nu_8 : ((8 : Int) : Rat) = 8 := rfl
theorem nu_25 : ((25 : Int) : Rat) = 25 := rfl
theorem nu_m2 : ((-2 : Int) : Rat) = -2 := rfl
theorem nu_m3 : ((-3 : Int) : Rat) = -3 := rfl
theorem idx4 {d p q r x : Rat} {u : Nat} (h : [d, p, q, r][u]? = some x) {sz bs ag zz e k} :
    indexA ⟨sz, bs, ag, zz, .slice e⟩ 4 (some (.c (.sl 4 (ratC d ++ (ratC p ++ (ratC q ++ ratC r)))))) (some (.c (.int k (u : Int)))) = some (.iptr (ratC x)) := by
  refine idx_flat (s := 4) (E := [ratC d, ratC p, ratC q, ratC r]) (fun x hx => ?_) (by
    have e : [ratC d, ratC p, ratC q, ratC r] = [d, p, q, r].map ratC := rfl
    rw [e, List.getElem?_map, h]; rfl) rfl
  simp only [List.mem_cons, List.not_mem_nil, or_false] at hx
  rcases hx with rfl | rfl | rfl | rfl <;> simp
theorem get4 {d p q r : Rat} {u : Nat} (h : u < 4) : ∃ x, [d, p, q, r][u]? = some x := ⟨_, List.getElem?_eq_getElem (l := [d, p, q, r]) h⟩
theorem all4 {d p q r : Rat} (h : ∀ i, i < 4 → ∀ x, [d, p, q, r][i]? = some x → ¬ x < 0) : ¬ d < 0 ∧ ¬ p < 0 ∧ ¬ q < 0 ∧ ¬ r < 0 :=
  ⟨h 0 (by omega) d rfl, h 1 (by omega) p rfl, h 2 (by omega) q rfl, h 3 (by omega) r rfl⟩
theorem of4 {d p q r : Rat} (h : ¬ d < 0 ∧ ¬ p < 0 ∧ ¬ q < 0 ∧ ¬ r < 0) {u : Nat} {x : Rat} (hx : [d, p, q, r][u]? = some x) : ¬ x < 0 := by
  have := List.mem_of_getElem? hx
  simp only [List.mem_cons, List.not_mem_nil, or_false] at this
  rcases this with rfl | rfl | rfl | rfl
  · exact h.1
  · exact h.2.1
  · exact h.2.2.1
  · exact h.2.2.2
theorem step4 {d p q r x : Rat} {u : Nat} (h : ∀ i, i < u → ∀ x, [d, p, q, r][i]? = some x → ¬ x < 0) (hx : [d, p, q, r][u]? = some x) (hn : ¬ x < 0) : ∀ i, i < u + 1 → ∀ x, [d, p, q, r][i]? = some x → ¬ x < 0 := by
  intro i hi y hy
  rcases Nat.lt_or_eq_of_le (show i ≤ u by omega) with k | k
  · exact h i k y hy
  · subst k; rw [hx] at hy; cases hy; exact hn
theorem neg4 {d p q r : Rat} (h : ¬ (¬ d < 0 ∧ ¬ p < 0 ∧ ¬ q < 0 ∧ ¬ r < 0)) : d < 0 ∨ (¬ d < 0 ∧ p < 0) ∨ (¬ d < 0 ∧ ¬ p < 0 ∧ q < 0) ∨ (¬ d < 0 ∧ ¬ p < 0 ∧ ¬ q < 0 ∧ r < 0) := by
  by_cases h1 : d < 0
  · exact .inl h1
  by_cases h2 : p < 0
  · exact .inr (.inl ⟨h1, h2⟩)
  by_cases h3 : q < 0
  · exact .inr (.inr (.inl ⟨h1, h2, h3⟩))
  exact .inr (.inr (.inr ⟨h1, h2, h3, Classical.not_not.1 fun k => h ⟨h1, h2, h3, k⟩⟩))
theorem ex_rdc : ∀ c : Rat, (c = 2 ∨ c = 3) → Rdc 1 c ∧ ((1 : Rat) = 0 → c = 0) := by
  rintro c (rfl | rfl)
  · exact ⟨⟨by decide, .inr (by decide +kernel)⟩, fun h => absurd h (by decide)⟩
  · exact ⟨⟨by decide, .inr (by decide +kernel)⟩, fun h => absurd h (by decide)⟩
theorem ex_32 {x : Rat} (h : Simp (Btw 0 1 2 0 1 3) x) : x = Rat.divInt 3 2 := by
  have hb : Btw 0 1 2 0 1 3 (Rat.divInt 3 2) := by
    unfold Btw
    rw [← two_eq (by decide), ← two_eq (by decide)]
    exact ⟨by decide +kernel, by decide +kernel⟩
  refine Simp.uniq (fun u v w => Btw.conv) h ⟨hb, fun z hz => ?_, fun q => absurd q (by decide +kernel)⟩
  have h1 : (1 : Rat) < z := v2_le0 (a := 0) (b := 1) (c := 2) (by rw [← two_eq (by decide)]; decide +kernel) hz.1
  have h2 : z < 2 := v2_ge0 (a := 0) (b := 1) (c := 3) hz.2 (by rw [← two_eq (by decide)]; decide +kernel)
  have h3 : (Rat.divInt 3 2).den = 2 := by decide +kernel
  rw [h3]
  rcases Nat.lt_or_ge z.den 2 with k | k
  · exfalso
    have e := den1 (x := z) (by have := z.den_pos; omega)
    rw [e] at h1 h2
    have a1 : (1 : Int) < z.num := by rw [← nu_1] at h1; exact_mod_cast h1
    have a2 : z.num < (2 : Int) := by rw [← nu_2] at h2; exact_mod_cast h2
    omega
  · exact k
theorem ex_b : cmpR 0 1 2 0 1 3 < 0 := by decide +kernel
theorem ex_z1 : ¬ 0 ≤ cmpR (Rat.divInt (-5) 2) 0 0 0 1 2 := by decide +kernel
theorem ex_z2 : two (Rat.divInt (-5) 2 - 0) 0 0 < 0 := by decide +kernel
theorem ex_z3 : 0 < two (0 - 0) 1 2 := by decide +kernel
theorem ex_q1 : quad (-3) 1 1 0 2 3 = 1 := by decide +kernel
theorem ex_q2 : quad 5 0 0 (-2) 2 3 = 1 := by decide +kernel
theorem ex_q3 : quad (25 - 4 - 1 - 2 * 2) (-2 * 2) (-2 * 2) (-2) 4 1 = 0 := by decide +kernel
theorem ex_e : cmpR 0 1 8 0 2 2 = 0 := by decide +kernel
end Go.PL

set_option linter.unusedSimpArgs false
set_option linter.unusedVariables false
set_option maxRecDepth 20000
namespace Go.Proofs.YtdojhoegildiaaaGreat
open Go Go.PL Go.RL
set_option maxHeartbeats 4000000 in
theorem c_radical_Sum_t (d p q r : Rat) [SzR d 2] [SzR p 2] [SzR q 2] [SzR r 2] (h : ¬ d < 0 ∧ ¬ p < 0 ∧ ¬ q < 0 ∧ ¬ r < 0) :
    Ret Tryz.prog 21 [.a (ratC d), .a (ratC p), .a (ratC q), .a (ratC r)] (.t [.c (.int .i64 (quad (d - p - q - r * r) (-2 * r) (-2 * r) (-2) p q)), .c (.int .i64 0)]) := by
  refine ret_of_body (md := {}) Tryz.func21 (by kernel_rfl) rfl ?_; simp only [Tryz.f21, go_sem, Nat.reduceAdd, Nat.reduceSub, List.reduceReplicate]; refine pwx_sr 4 [] (by rfl) fun _ K1 => ?_; simp (disch := omega) only [go_sem, nu_m2]; refine K1 _ ?_; clear K1; refine pwp_seq ?_; refine pwx_sr 1 [] (by rfl) fun _ K2 => ?_; simp (maxSteps := 3000000) (disch := omega) only [go_sem, nu_m2]; refine K2 _ ?_; clear K2; refine pwp_block ?_; refine pwp_loopF (false :: false :: false :: false :: true :: true :: true :: true :: true :: true :: false :: false :: false :: false :: false :: false :: false :: false :: true :: true :: true :: false :: false :: false :: false :: false :: false :: false :: false :: false :: false :: false :: false :: false :: false :: false :: false :: false :: false :: false :: false :: false :: false :: false :: false :: false :: false :: false :: []) 4 (fun M s => ∃ u : Nat, (u ≤ 4) ∧ (∀ i, i < u → ∀ x, [d, p, q, r][i]? = some x → ¬ x < 0) ∧ 4 - u = M ∧ s = { slots := .j :: .j :: .j :: .j :: .e (.c (.ptr 0 0)) :: .e (.c (.ptr 1 0)) :: .e (.c (.ptr 2 0)) :: .e (.c (.ptr 3 0)) :: .e (.c (.int .i64 0)) :: .e (.c (.int .i64 0)) :: .j :: .j :: .j :: .j :: .j :: .j :: .j :: .j :: .e (.c (.sl 4 (ratC d ++ (ratC p ++ (ratC q ++ ratC r))))) :: .e (.c (.int .i64 ((4 : Nat) : Int))) :: .e (.c (.int .i64 (u : Int))) :: .j :: .j :: .j :: .j :: .j :: .j :: .j :: .j :: .j :: .j :: .j :: .j :: .j :: .j :: .j :: .j :: .j :: .j :: .j :: .j :: .j :: .j :: .j :: .j :: .j :: .j :: .j :: [], st := [.live (ratC d), .live (ratC p), .live (ratC q), .live (ratC r)] }) (n := 4) rfl ?_ ?_ ?_
  · refine ⟨0, ?_, ?_, rfl, ?_⟩
    · omega
    · intro i hi; omega
    · first | rfl | simp [St.cut, keep]
  · refine ⟨rfl, ?_, ?_⟩ <;> first | rfl | (simp [keep, PV.lt, PE.lt, PC.lt, Box.lt, ↓lC_lt]; done) | simp [keep, PV.lt, PE.lt, PC.lt, Box.lt, ↓lC_lt, ↓intC_lt, ↓ratC_lt, ↓u32s_lt]
  · rintro _ _ ⟨u, hu, hk, rfl, rfl⟩
    refine pwx_sr 0 [] (by rfl) fun _ K3 => ?_; simp (disch := omega) only [go_sem, nu_m2]; refine K3 _ ?_; clear K3; refine pwp_seq ?_; refine pwp_cond (b := _) (by rfl) (fun hb0 => ?_) (fun hb0 => ?_)
    · replace hb0 := of_decide_eq_true hb0; obtain ⟨x, hx⟩ := get4 (d := d) (p := p) (q := q) (r := r) (show u < 4 by omega); have hix := @idx4 d p q r x u hx; refine pwp_skip ?_; refine n_then ?_; refine pwp_seq ?_; refine pwp_block ?_; refine pwx_sr 1 [] (by rfl) fun _ K4 => ?_; simp (disch := omega) only [go_sem, nu_m2, hix]; refine K4 _ ?_; clear K4; have hn := of4 h hx; refine pwx_sr 0 [] (by rfl) fun _ K5 => ?_; refine rgnX_take 2 fun _ K6 => ?_; simp (disch := omega) only [go_sem, nu_m2, hn, decide_false]; refine ⟨_, c_rational_Sign _, ?_⟩; refine K6 _ ?_; simp (disch := omega) only [go_sem, nu_m2, hn, decide_false]; refine K5 _ ?_; clear K6 K5; refine pwp_cond (b := false) (by rfl) (fun h => nomatch h) (fun _ => ?_); refine pwp_skip ?_; refine n_block ?_; refine n_then ?_; refine pwx_region 0 [] (by rfl) fun _ K7 => ?_; simp (disch := omega) only [go_sem, nu_m2]; refine K7 _ ?_; clear K7; refine n_then ?_; refine ⟨_, ?hdec, ⟨u + 1, ?hf0, ?hf1, rfl, ?heq⟩, ?hok⟩
      case heq => first | rfl | simp [St.cut, keep]
      case hf0 => omega
      case hf1 => exact step4 hk hx (by first | assumption | exact of4 h hx)
      case hdec => omega
      case hok => refine ⟨rfl, ?_, ?_⟩ <;> first | rfl | (simp [keep, PV.lt, PE.lt, PC.lt, Box.lt, ↓lC_lt]; done) | simp [keep, PV.lt, PE.lt, PC.lt, Box.lt, ↓lC_lt, ↓intC_lt, ↓ratC_lt, ↓u32s_lt]
    · replace hb0 := of_decide_eq_false hb0
      obtain rfl : u = 4 := by omega
      refine pwp_exit ?_; refine e_then ?_; refine e_then ?_; refine e_here ?_; refine n_then ?_; refine pwx_sd Tryz.mixed 1 [] (by rfl) [] (by kernel_rfl) (by simp) fun _ K8 => ?_; refine rgnX_take 3 fun _ K9 => ?_; simp (disch := omega) only [go_sem, nu_m2]; refine ⟨_, c_rational_Sub _ _ (by omega), ?_⟩; refine K9 _ ?_; refine rgnX_take 2 fun _ K10 => ?_; simp (disch := omega) only [go_sem, nu_m2]; refine ⟨_, c_rational_Sub _ _ (by omega), ?_⟩; refine K10 _ ?_; refine rgnX_take 3 fun _ K11 => ?_; simp (disch := omega) only [go_sem, nu_m2]; refine ⟨_, c_rational_Mul _ _ (by omega), ?_⟩; refine K11 _ ?_; refine rgnX_take 1 fun _ K12 => ?_; simp (disch := omega) only [go_sem, nu_m2]; refine ⟨_, c_rational_Sub _ _ (by omega), ?_⟩; refine K12 _ ?_; simp (disch := omega) only [go_sem, nu_m2]; refine K8 _ ?_; clear K12 K11 K10 K9 K8; refine pwx_sd Tryz.mixed 1 [] (by rfl) [] (by kernel_rfl) (by simp) fun _ K13 => ?_; refine rgnX_take 1 fun _ K14 => ?_; simp (disch := omega) only [go_sem, nu_m2]; refine ⟨_, c_rational_FromInt64 _ (by omega) (by omega), ?_⟩; refine K14 _ ?_; refine rgnX_take 2 fun _ K15 => ?_; simp (disch := omega) only [go_sem, nu_m2]; refine ⟨_, c_rational_Mul _ _ (by omega), ?_⟩; refine K15 _ ?_; simp (disch := omega) only [go_sem, nu_m2]; refine K13 _ ?_; clear K15 K14 K13; refine pwx_sd Tryz.mixed 0 [] (by rfl) [] (by kernel_rfl) (by simp) fun _ K16 => ?_; refine rgnX_take 4 fun _ K17 => ?_; simp (disch := omega) only [go_sem, nu_m2]; refine ⟨_, c_rational_FromInt64 _ (by omega) (by omega), ?_⟩; refine K17 _ ?_; refine rgnX_take 4 fun _ K18 => ?_; simp (disch := omega) only [go_sem, nu_m2]; refine ⟨_, c_radical_Sign _ _ _ _ _ _ (by omega), ?_⟩; refine K18 _ ?_; simp (disch := omega) only [go_sem, nu_m2]; refine K16 _ ?_; clear K18 K17 K16; refine pwp_ret ?_; refine ⟨Or.inr rfl, ?_⟩; simp (disch := omega) only [go_sem, nu_m2]
      all_goals first | exact ⟨rfl, rfl⟩ | rfl
set_option maxHeartbeats 4000000 in
theorem c_radical_Sum_f (d p q r : Rat) [SzR d 2] [SzR p 2] [SzR q 2] [SzR r 2] (h : ¬ (¬ d < 0 ∧ ¬ p < 0 ∧ ¬ q < 0 ∧ ¬ r < 0)) :
    Ret Tryz.prog 21 [.a (ratC d), .a (ratC p), .a (ratC q), .a (ratC r)] (.t [.c (.int .i64 0), .c (.int .i64 7)]) := by
  refine ret_of_body (md := {}) Tryz.func21 (by kernel_rfl) rfl ?_; simp only [Tryz.f21, go_sem, Nat.reduceAdd, Nat.reduceSub, List.reduceReplicate]; refine pwx_sr 4 [] (by rfl) fun _ K1 => ?_; simp (disch := omega) only [go_sem, nu_m2]; refine K1 _ ?_; clear K1; refine pwp_seq ?_; refine pwx_sr 1 [] (by rfl) fun _ K2 => ?_; simp (maxSteps := 3000000) (disch := omega) only [go_sem, nu_m2]; refine K2 _ ?_; clear K2; refine pwp_block ?_; refine pwp_loopF (false :: false :: false :: false :: true :: true :: true :: true :: true :: true :: false :: false :: false :: false :: false :: false :: false :: false :: true :: true :: true :: false :: false :: false :: false :: false :: false :: false :: false :: false :: false :: false :: false :: false :: false :: false :: false :: false :: false :: false :: false :: false :: false :: false :: false :: false :: false :: false :: []) 4 (fun M s => ∃ u : Nat, (u ≤ 4) ∧ (∀ i, i < u → ∀ x, [d, p, q, r][i]? = some x → ¬ x < 0) ∧ 4 - u = M ∧ s = { slots := .j :: .j :: .j :: .j :: .e (.c (.ptr 0 0)) :: .e (.c (.ptr 1 0)) :: .e (.c (.ptr 2 0)) :: .e (.c (.ptr 3 0)) :: .e (.c (.int .i64 0)) :: .e (.c (.int .i64 0)) :: .j :: .j :: .j :: .j :: .j :: .j :: .j :: .j :: .e (.c (.sl 4 (ratC d ++ (ratC p ++ (ratC q ++ ratC r))))) :: .e (.c (.int .i64 ((4 : Nat) : Int))) :: .e (.c (.int .i64 (u : Int))) :: .j :: .j :: .j :: .j :: .j :: .j :: .j :: .j :: .j :: .j :: .j :: .j :: .j :: .j :: .j :: .j :: .j :: .j :: .j :: .j :: .j :: .j :: .j :: .j :: .j :: .j :: .j :: [], st := [.live (ratC d), .live (ratC p), .live (ratC q), .live (ratC r)] }) (n := 4) rfl ?_ ?_ ?_
  · refine ⟨0, ?_, ?_, rfl, ?_⟩
    · omega
    · intro i hi; omega
    · first | rfl | simp [St.cut, keep]
  · refine ⟨rfl, ?_, ?_⟩ <;> first | rfl | (simp [keep, PV.lt, PE.lt, PC.lt, Box.lt, ↓lC_lt]; done) | simp [keep, PV.lt, PE.lt, PC.lt, Box.lt, ↓lC_lt, ↓intC_lt, ↓ratC_lt, ↓u32s_lt]
  · rintro _ _ ⟨u, hu, hk, rfl, rfl⟩
    refine pwx_sr 0 [] (by rfl) fun _ K3 => ?_; simp (disch := omega) only [go_sem, nu_m2]; refine K3 _ ?_; clear K3; refine pwp_seq ?_; refine pwp_cond (b := _) (by rfl) (fun hb0 => ?_) (fun hb0 => ?_)
    · replace hb0 := of_decide_eq_true hb0; obtain ⟨x, hx⟩ := get4 (d := d) (p := p) (q := q) (r := r) (show u < 4 by omega); have hix := @idx4 d p q r x u hx; refine pwp_skip ?_; refine n_then ?_; refine pwp_seq ?_; refine pwp_block ?_; refine pwx_sr 1 [] (by rfl) fun _ K4 => ?_; simp (disch := omega) only [go_sem, nu_m2, hix]; refine K4 _ ?_; clear K4; refine pwx_sr 0 [] (by rfl) fun _ K5 => ?_; refine rgnX_take 2 fun _ K6 => ?_; simp (disch := omega) only [go_sem, nu_m2]; refine ⟨_, c_rational_Sign _, ?_⟩; refine K6 _ ?_; simp (disch := omega) only [go_sem, nu_m2]; refine K5 _ ?_; clear K6 K5; refine pwp_cond (b := _) (by rfl) (fun hb1 => ?_) (fun hb1 => ?_)
      · first | replace hb1 := of_decide_eq_true hb1 | skip
        refine pwx_sr 0 [] (by rfl) fun _ K7 => ?_; simp (disch := omega) only [go_sem, nu_m2]; refine K7 _ ?_; clear K7; refine pwp_ret ?_; refine r_block ?_; refine r_then ?_; refine r_then ?_; refine r_block ?_; refine r_then ?_; refine ⟨Or.inr rfl, ?_⟩; simp (disch := omega) only [go_sem, nu_m2]
        all_goals first | exact ⟨rfl, rfl⟩ | rfl
      · first | replace hb1 := of_decide_eq_false hb1 | skip
        refine pwp_skip ?_; refine n_block ?_; refine n_then ?_; refine pwx_region 0 [] (by rfl) fun _ K8 => ?_; simp (disch := omega) only [go_sem, nu_m2]; refine K8 _ ?_; clear K8; refine n_then ?_; refine ⟨_, ?hdec, ⟨u + 1, ?hf0, ?hf1, rfl, ?heq⟩, ?hok⟩
        case heq => first | rfl | simp [St.cut, keep]
        case hf0 => omega
        case hf1 => exact step4 hk hx (by first | assumption | exact of4 h hx)
        case hdec => omega
        case hok => refine ⟨rfl, ?_, ?_⟩ <;> first | rfl | (simp [keep, PV.lt, PE.lt, PC.lt, Box.lt, ↓lC_lt]; done) | simp [keep, PV.lt, PE.lt, PC.lt, Box.lt, ↓lC_lt, ↓intC_lt, ↓ratC_lt, ↓u32s_lt]
    · exfalso; replace hb0 := of_decide_eq_false hb0; obtain rfl : u = 4 := (by omega); exact h (all4 hk)
set_option maxHeartbeats 4000000 in
theorem c_swarfref05_Sum_t (d p q r : Rat) [SzR d 2] [SzR p 2] [SzR q 2] [SzR r 2] (h : ¬ d < 0 ∧ ¬ p < 0 ∧ ¬ q < 0 ∧ ¬ r < 0) :
    Ret Tryz.prog 22 [.a (ratC d), .a (ratC p), .a (ratC q), .a (ratC r)] (.t [.c (.int .i64 (quad (d - p - q - r * r) (-2 * r) (-2 * r) (-2) p q)), .c (.int .i64 0)]) := by
  refine ret_of_body (md := {}) Tryz.func22 (by kernel_rfl) rfl ?_; simp only [Tryz.f22, go_sem, Nat.reduceAdd, Nat.reduceSub, List.reduceReplicate]; obtain ⟨h1, h2, h3, h4⟩ := h; refine pwx_sr 4 [] (by rfl) fun _ K1 => ?_; simp (disch := omega) only [go_sem, nu_m2]; refine K1 _ ?_; clear K1; refine pwp_seq ?_; refine pwx_sr 0 [some 12, some 13, some 14, some 15, some 16, some 17, some 18, some 19, some 20, some 21, some 22, some 23, some 24, some 25, some 26, some 27, some 28, some 29] (by rfl) fun _ K2 => ?_; refine rgnX_take 2 fun _ K3 => ?_; simp (disch := omega) only [go_sem, nu_m2, h1, h2, h3, h4, decide_false]; refine ⟨_, c_swarfref02_Sign _, ?_⟩; refine K3 _ ?_; refine rgnX_take 4 fun _ K4 => ?_; simp (disch := omega) only [go_sem, nu_m2, h1, h2, h3, h4, decide_false]
  first | refine ⟨_, c_swarfref02_Sign _, ?_⟩ | skip
  refine K4 _ ?_; refine rgnX_take 5 fun _ K5 => ?_; simp (disch := omega) only [go_sem, nu_m2, h1, h2, h3, h4, decide_false]
  first | refine ⟨_, c_swarfref02_Sign _, ?_⟩ | skip
  refine K5 _ ?_; refine rgnX_take 5 fun _ K6 => ?_; simp (disch := omega) only [go_sem, nu_m2, h1, h2, h3, h4, decide_false]
  first | refine ⟨_, c_swarfref02_Sign _, ?_⟩ | skip
  refine K6 _ ?_; simp (disch := omega) only [go_sem, nu_m2, h1, h2, h3, h4, decide_false]; refine K2 _ ?_; clear K6 K5 K4 K3 K2; refine pwp_cond (b := false) (by rfl) (fun h => nomatch h) (fun _ => ?_); refine pwp_skip ?_; refine n_then ?_; refine pwx_sd Tryz.mixed 1 [] (by rfl) [] (by kernel_rfl) (by simp) fun _ K7 => ?_; refine rgnX_take 3 fun _ K8 => ?_; simp (disch := omega) only [go_sem, nu_m2]; refine ⟨_, c_swarfref02_Sub _ _ (by omega), ?_⟩; refine K8 _ ?_; refine rgnX_take 2 fun _ K9 => ?_; simp (disch := omega) only [go_sem, nu_m2]; refine ⟨_, c_swarfref02_Sub _ _ (by omega), ?_⟩; refine K9 _ ?_; refine rgnX_take 3 fun _ K10 => ?_; simp (disch := omega) only [go_sem, nu_m2]; refine ⟨_, c_swarfref02_Mul _ _ (by omega), ?_⟩; refine K10 _ ?_; refine rgnX_take 1 fun _ K11 => ?_; simp (disch := omega) only [go_sem, nu_m2]; refine ⟨_, c_swarfref02_Sub _ _ (by omega), ?_⟩; refine K11 _ ?_; simp (disch := omega) only [go_sem, nu_m2]; refine K7 _ ?_; clear K11 K10 K9 K8 K7; refine pwx_sd Tryz.mixed 1 [] (by rfl) [] (by kernel_rfl) (by simp) fun _ K12 => ?_; refine rgnX_take 1 fun _ K13 => ?_; simp (disch := omega) only [go_sem, nu_m2]; refine ⟨_, c_swarfref02_FromInt64 _ (by omega) (by omega), ?_⟩; refine K13 _ ?_; refine rgnX_take 2 fun _ K14 => ?_; simp (disch := omega) only [go_sem, nu_m2]; refine ⟨_, c_swarfref02_Mul _ _ (by omega), ?_⟩; refine K14 _ ?_; simp (disch := omega) only [go_sem, nu_m2]; refine K12 _ ?_; clear K14 K13 K12; refine pwx_sd Tryz.mixed 0 [] (by rfl) [] (by kernel_rfl) (by simp) fun _ K15 => ?_; refine rgnX_take 4 fun _ K16 => ?_; simp (disch := omega) only [go_sem, nu_m2]; refine ⟨_, c_swarfref02_FromInt64 _ (by omega) (by omega), ?_⟩; refine K16 _ ?_; refine rgnX_take 4 fun _ K17 => ?_; simp (disch := omega) only [go_sem, nu_m2]; refine ⟨_, c_swarfref05_Sign _ _ _ _ _ _ (by omega), ?_⟩; refine K17 _ ?_; simp (disch := omega) only [go_sem, nu_m2]; refine K15 _ ?_; clear K17 K16 K15; refine pwp_ret ?_; refine ⟨Or.inr rfl, ?_⟩; simp (disch := omega) only [go_sem, nu_m2]
  all_goals first | exact ⟨rfl, rfl⟩ | rfl
set_option maxHeartbeats 4000000 in
theorem c_swarfref05_Sum_f (d p q r : Rat) [SzR d 2] [SzR p 2] [SzR q 2] [SzR r 2] (h : ¬ (¬ d < 0 ∧ ¬ p < 0 ∧ ¬ q < 0 ∧ ¬ r < 0)) :
    Ret Tryz.prog 22 [.a (ratC d), .a (ratC p), .a (ratC q), .a (ratC r)] (.t [.c (.int .i64 0), .c (.int .i64 7)]) := by
  refine ret_of_body (md := {}) Tryz.func22 (by kernel_rfl) rfl ?_; simp only [Tryz.f22, go_sem, Nat.reduceAdd, Nat.reduceSub, List.reduceReplicate]; refine pwx_sr 4 [] (by rfl) fun _ K1 => ?_; simp (disch := omega) only [go_sem, nu_m2]; refine K1 _ ?_; clear K1; refine pwp_seq ?_
  rcases neg4 h with h1 | ⟨h1, h2⟩ | ⟨h1, h2, h3⟩ | ⟨h1, h2, h3, h4⟩
  · refine pwx_sr 0 [some 12, some 13, some 14, some 15, some 16, some 17, some 18, some 19, some 20, some 21, some 22, some 23, some 24, some 25, some 26, some 27, some 28, some 29] (by rfl) fun _ K2 => ?_; refine rgnX_take 2 fun _ K3 => ?_; simp (disch := omega) only [go_sem, nu_m2, h1, decide_true]; refine ⟨_, c_swarfref02_Sign _, ?_⟩; refine K3 _ ?_; refine rgnX_take 4 fun _ K4 => ?_; simp (disch := omega) only [go_sem, nu_m2, h1, decide_true]
    first | refine ⟨_, c_swarfref02_Sign _, ?_⟩ | skip
    refine K4 _ ?_; refine rgnX_take 5 fun _ K5 => ?_; simp (disch := omega) only [go_sem, nu_m2, h1, decide_true]
    first | refine ⟨_, c_swarfref02_Sign _, ?_⟩ | skip
    refine K5 _ ?_; refine rgnX_take 5 fun _ K6 => ?_; simp (disch := omega) only [go_sem, nu_m2, h1, decide_true]
    first | refine ⟨_, c_swarfref02_Sign _, ?_⟩ | skip
    refine K6 _ ?_; simp (disch := omega) only [go_sem, nu_m2, h1, decide_true]; refine K2 _ ?_; clear K6 K5 K4 K3 K2; refine pwp_cond (b := true) (by rfl) (fun _ => ?_) (fun h => nomatch h); refine pwx_sr 0 [] (by rfl) fun _ K7 => ?_; simp (disch := omega) only [go_sem, nu_m2]; refine K7 _ ?_; clear K7; refine pwp_ret ?_; refine r_then ?_; refine ⟨Or.inr rfl, ?_⟩; simp (disch := omega) only [go_sem, nu_m2]
    all_goals first | exact ⟨rfl, rfl⟩ | rfl
  · refine pwx_sr 0 [some 12, some 13, some 14, some 15, some 16, some 17, some 18, some 19, some 20, some 21, some 22, some 23, some 24, some 25, some 26, some 27, some 28, some 29] (by rfl) fun _ K8 => ?_; refine rgnX_take 2 fun _ K9 => ?_; simp (disch := omega) only [go_sem, nu_m2, h1, h2, decide_true, decide_false]; refine ⟨_, c_swarfref02_Sign _, ?_⟩; refine K9 _ ?_; refine rgnX_take 4 fun _ K10 => ?_; simp (disch := omega) only [go_sem, nu_m2, h1, h2, decide_true, decide_false]
    first | refine ⟨_, c_swarfref02_Sign _, ?_⟩ | skip
    refine K10 _ ?_; refine rgnX_take 5 fun _ K11 => ?_; simp (disch := omega) only [go_sem, nu_m2, h1, h2, decide_true, decide_false]
    first | refine ⟨_, c_swarfref02_Sign _, ?_⟩ | skip
    refine K11 _ ?_; refine rgnX_take 5 fun _ K12 => ?_; simp (disch := omega) only [go_sem, nu_m2, h1, h2, decide_true, decide_false]
    first | refine ⟨_, c_swarfref02_Sign _, ?_⟩ | skip
    refine K12 _ ?_; simp (disch := omega) only [go_sem, nu_m2, h1, h2, decide_true, decide_false]; refine K8 _ ?_; clear K12 K11 K10 K9 K8; refine pwp_cond (b := true) (by rfl) (fun _ => ?_) (fun h => nomatch h); refine pwx_sr 0 [] (by rfl) fun _ K13 => ?_; simp (disch := omega) only [go_sem, nu_m2]; refine K13 _ ?_; clear K13; refine pwp_ret ?_; refine r_then ?_; refine ⟨Or.inr rfl, ?_⟩; simp (disch := omega) only [go_sem, nu_m2]
    all_goals first | exact ⟨rfl, rfl⟩ | rfl
  · refine pwx_sr 0 [some 12, some 13, some 14, some 15, some 16, some 17, some 18, some 19, some 20, some 21, some 22, some 23, some 24, some 25, some 26, some 27, some 28, some 29] (by rfl) fun _ K14 => ?_; refine rgnX_take 2 fun _ K15 => ?_; simp (disch := omega) only [go_sem, nu_m2, h1, h2, h3, decide_true, decide_false]; refine ⟨_, c_swarfref02_Sign _, ?_⟩; refine K15 _ ?_; refine rgnX_take 4 fun _ K16 => ?_; simp (disch := omega) only [go_sem, nu_m2, h1, h2, h3, decide_true, decide_false]
    first | refine ⟨_, c_swarfref02_Sign _, ?_⟩ | skip
    refine K16 _ ?_; refine rgnX_take 5 fun _ K17 => ?_; simp (disch := omega) only [go_sem, nu_m2, h1, h2, h3, decide_true, decide_false]
    first | refine ⟨_, c_swarfref02_Sign _, ?_⟩ | skip
    refine K17 _ ?_; refine rgnX_take 5 fun _ K18 => ?_; simp (disch := omega) only [go_sem, nu_m2, h1, h2, h3, decide_true, decide_false]
    first | refine ⟨_, c_swarfref02_Sign _, ?_⟩ | skip
    refine K18 _ ?_; simp (disch := omega) only [go_sem, nu_m2, h1, h2, h3, decide_true, decide_false]; refine K14 _ ?_; clear K18 K17 K16 K15 K14; refine pwp_cond (b := true) (by rfl) (fun _ => ?_) (fun h => nomatch h); refine pwx_sr 0 [] (by rfl) fun _ K19 => ?_; simp (disch := omega) only [go_sem, nu_m2]; refine K19 _ ?_; clear K19; refine pwp_ret ?_; refine r_then ?_; refine ⟨Or.inr rfl, ?_⟩; simp (disch := omega) only [go_sem, nu_m2]
    all_goals first | exact ⟨rfl, rfl⟩ | rfl
  · refine pwx_sr 0 [some 12, some 13, some 14, some 15, some 16, some 17, some 18, some 19, some 20, some 21, some 22, some 23, some 24, some 25, some 26, some 27, some 28, some 29] (by rfl) fun _ K20 => ?_; refine rgnX_take 2 fun _ K21 => ?_; simp (disch := omega) only [go_sem, nu_m2, h1, h2, h3, h4, decide_true, decide_false]; refine ⟨_, c_swarfref02_Sign _, ?_⟩; refine K21 _ ?_; refine rgnX_take 4 fun _ K22 => ?_; simp (disch := omega) only [go_sem, nu_m2, h1, h2, h3, h4, decide_true, decide_false]
    first | refine ⟨_, c_swarfref02_Sign _, ?_⟩ | skip
    refine K22 _ ?_; refine rgnX_take 5 fun _ K23 => ?_; simp (disch := omega) only [go_sem, nu_m2, h1, h2, h3, h4, decide_true, decide_false]
    first | refine ⟨_, c_swarfref02_Sign _, ?_⟩ | skip
    refine K23 _ ?_; refine rgnX_take 5 fun _ K24 => ?_; simp (disch := omega) only [go_sem, nu_m2, h1, h2, h3, h4, decide_true, decide_false]
    first | refine ⟨_, c_swarfref02_Sign _, ?_⟩ | skip
    refine K24 _ ?_; simp (disch := omega) only [go_sem, nu_m2, h1, h2, h3, h4, decide_true, decide_false]; refine K20 _ ?_; clear K24 K23 K22 K21 K20; refine pwp_cond (b := true) (by rfl) (fun _ => ?_) (fun h => nomatch h); refine pwx_sr 0 [] (by rfl) fun _ K25 => ?_; simp (disch := omega) only [go_sem, nu_m2]; refine K25 _ ?_; clear K25; refine pwp_ret ?_; refine r_then ?_; refine ⟨Or.inr rfl, ?_⟩; simp (disch := omega) only [go_sem, nu_m2]
    all_goals first | exact ⟨rfl, rfl⟩ | rfl
set_option maxHeartbeats 4000000 in
theorem c_swarflaw05_root (x y : Int) (hx : -9223372036854775808 ≤ x) (hx' : x < 9223372036854775808) (hy : -9223372036854775808 ≤ y) (hy' : y < 9223372036854775808) :
    Ret Tryz.prog 35 [.c (.int .i64 x), .c (.int .i64 y)] (.e (.a (ratC (0) ++ (ratC ((x : Rat)) ++ ratC ((y : Rat)))))) := by
  refine ret_of_body (md := {}) Tryz.func35 (by kernel_rfl) rfl ?_; simp only [Tryz.f35, go_sem, Nat.reduceAdd, Nat.reduceSub, List.reduceReplicate]; refine pwx_sr 1 [] (by rfl) fun _ K1 => ?_; simp (disch := omega) only [go_sem, nu_0]; refine K1 _ ?_; clear K1; refine pwx_sr 0 [] (by rfl) fun _ K2 => ?_; refine rgnX_take 1 fun _ K3 => ?_; simp (disch := omega) only [go_sem, nu_0]; refine ⟨_, c_swarflaw05_num _ (by omega) (by omega), ?_⟩; refine K3 _ ?_; refine rgnX_take 2 fun _ K4 => ?_; simp (disch := omega) only [go_sem, nu_0]; refine ⟨_, c_swarflaw05_num _ (by omega) (by omega), ?_⟩; refine K4 _ ?_; refine rgnX_take 2 fun _ K5 => ?_; simp (disch := omega) only [go_sem, nu_0]; refine ⟨_, c_swarflaw05_num _ (by omega) (by omega), ?_⟩; refine K5 _ ?_; simp (disch := omega) only [go_sem, nu_0]; refine K2 _ ?_; clear K5 K4 K3 K2; refine pwp_ret ?_; refine ⟨Or.inr rfl, ?_⟩; simp (disch := omega) only [go_sem, nu_0]
  all_goals rfl
theorem ex_btw : Ret Tryz.prog 23 [.a (ratC (0) ++ (ratC (1) ++ ratC (2))), .a (ratC (0) ++ (ratC (1) ++ ratC (3)))] (.t [.a (ratC (Rat.divInt 3 2)), .c (.int .i64 0)]) := by
  haveI : SzR (0 : Rat) 2 := (inferInstance : SzR (0 : Rat) 1).mono (by omega)
  haveI : SzR (1 : Rat) 2 := (inferInstance : SzR (1 : Rat) 1).mono (by omega)
  haveI : SzR (2 : Rat) 2 := (inferInstance : SzR (2 : Rat) 1).mono (by omega)
  haveI : SzR (3 : Rat) 2 := (inferInstance : SzR (3 : Rat) 1).mono (by omega)
  obtain ⟨r1, z1⟩ := ex_rdc 2 (.inl rfl)
  obtain ⟨r2, z2⟩ := ex_rdc 3 (.inr rfl)
  obtain ⟨x, _, hx, hp, _⟩ := betweens r1 r2 z1 z2 ex_b
  rw [ex_32 hx] at hp
  exact hp
theorem ex_zero : Ret Tryz.prog 23 [.a (ratC (Rat.divInt (-5) 2) ++ (ratC (0) ++ ratC (0))), .a (ratC (0) ++ (ratC (1) ++ ratC (2)))] (.t [.a (ratC 0), .c (.int .i64 0)]) := by
  haveI : SzR (0 : Rat) 2 := (inferInstance : SzR (0 : Rat) 1).mono (by omega)
  haveI : SzR (1 : Rat) 2 := (inferInstance : SzR (1 : Rat) 1).mono (by omega)
  haveI : SzR (2 : Rat) 2 := (inferInstance : SzR (2 : Rat) 1).mono (by omega)
  haveI : SzR (Rat.divInt (-5) 2) 2 := ⟨szi_lit (by decide +kernel), szi_lit (by decide +kernel)⟩
  exact c_Between_1 _ _ _ _ _ _ (by decide) (by decide) ex_z1 ex_z2 ex_z3
theorem ex_sum : Ret Tryz.prog 21 [.a (ratC 25), .a (ratC 4), .a (ratC 1), .a (ratC 2)] (.t [.c (.int .i64 0), .c (.int .i64 0)]) := by
  haveI : SzR (25 : Rat) 2 := (inferInstance : SzR (25 : Rat) 1).mono (by omega)
  haveI : SzR (4 : Rat) 2 := (inferInstance : SzR (4 : Rat) 1).mono (by omega)
  haveI : SzR (1 : Rat) 2 := (inferInstance : SzR (1 : Rat) 1).mono (by omega)
  haveI : SzR (2 : Rat) 2 := (inferInstance : SzR (2 : Rat) 1).mono (by omega)
  have h := c_radical_Sum_t 25 4 1 2 (by decide)
  rw [ex_q3] at h
  exact h
set_option maxHeartbeats 4000000 in
theorem c_swarflaw05_awake :
    Ret Tryz.prog 10 [] (.e (.c (.bool true))) := by
  refine ret_of_body (md := {}) Tryz.func10 (by kernel_rfl) rfl ?_; simp only [Tryz.f10, go_sem, Nat.reduceAdd, Nat.reduceSub, List.reduceReplicate]; haveI : SzR (Rat.divInt 3 2) 2 := ⟨szi_lit (by decide +kernel), szi_lit (by decide +kernel)⟩; refine pwx_sr 0 [] (by rfl) fun _ K1 => ?_; simp (disch := omega) only [go_sem, nu_0, nu_1, nu_2, nu_3, nu_4, nu_5, nu_8, nu_25, nu_m2, nu_m3, eq_self, ex_q1, ex_q2, ex_e]; refine K1 _ ?_; clear K1; refine pwx_sr 0 [] (by rfl) fun _ K2 => ?_; refine rgnX_take 1 fun _ K3 => ?_; simp (disch := omega) only [go_sem, nu_0, nu_1, nu_2, nu_3, nu_4, nu_5, nu_8, nu_25, nu_m2, nu_m3, eq_self, ex_q1, ex_q2, ex_e]; refine ⟨_, c_swarflaw05_num _ (by omega) (by omega), ?_⟩; refine K3 _ ?_; refine rgnX_take 1 fun _ K4 => ?_; simp (disch := omega) only [go_sem, nu_0, nu_1, nu_2, nu_3, nu_4, nu_5, nu_8, nu_25, nu_m2, nu_m3, eq_self, ex_q1, ex_q2, ex_e]; refine ⟨_, c_swarflaw05_num _ (by omega) (by omega), ?_⟩; refine K4 _ ?_; refine rgnX_take 1 fun _ K5 => ?_; simp (disch := omega) only [go_sem, nu_0, nu_1, nu_2, nu_3, nu_4, nu_5, nu_8, nu_25, nu_m2, nu_m3, eq_self, ex_q1, ex_q2, ex_e]; refine ⟨_, c_swarflaw05_num _ (by omega) (by omega), ?_⟩; refine K5 _ ?_; refine rgnX_take 1 fun _ K6 => ?_; simp (disch := omega) only [go_sem, nu_0, nu_1, nu_2, nu_3, nu_4, nu_5, nu_8, nu_25, nu_m2, nu_m3, eq_self, ex_q1, ex_q2, ex_e]; refine ⟨_, c_swarflaw05_num _ (by omega) (by omega), ?_⟩; refine K6 _ ?_; refine rgnX_take 1 fun _ K7 => ?_; simp (disch := omega) only [go_sem, nu_0, nu_1, nu_2, nu_3, nu_4, nu_5, nu_8, nu_25, nu_m2, nu_m3, eq_self, ex_q1, ex_q2, ex_e]; refine ⟨_, ex_sum, ?_⟩; refine K7 _ ?_; simp (disch := omega) only [go_sem, nu_0, nu_1, nu_2, nu_3, nu_4, nu_5, nu_8, nu_25, nu_m2, nu_m3, eq_self, ex_q1, ex_q2, ex_e]; refine K2 _ ?_; clear K7 K6 K5 K4 K3 K2; refine pwx_sr 1 [] (by rfl) fun _ K8 => ?_; refine rgnX_take 1 fun _ K9 => ?_; simp (disch := omega) only [go_sem, nu_0, nu_1, nu_2, nu_3, nu_4, nu_5, nu_8, nu_25, nu_m2, nu_m3, eq_self, ex_q1, ex_q2, ex_e]; refine ⟨_, c_swarflaw05_root _ _ (by omega) (by omega) (by omega) (by omega), ?_⟩; refine K9 _ ?_; refine rgnX_take 1 fun _ K10 => ?_; simp (disch := omega) only [go_sem, nu_0, nu_1, nu_2, nu_3, nu_4, nu_5, nu_8, nu_25, nu_m2, nu_m3, eq_self, ex_q1, ex_q2, ex_e]; refine ⟨_, c_swarflaw05_root _ _ (by omega) (by omega) (by omega) (by omega), ?_⟩; refine K10 _ ?_; refine rgnX_take 1 fun _ K11 => ?_; simp (disch := omega) only [go_sem, nu_0, nu_1, nu_2, nu_3, nu_4, nu_5, nu_8, nu_25, nu_m2, nu_m3, eq_self, ex_q1, ex_q2, ex_e]; refine ⟨_, ex_btw, ?_⟩; refine K11 _ ?_; simp (disch := omega) only [go_sem, nu_0, nu_1, nu_2, nu_3, nu_4, nu_5, nu_8, nu_25, nu_m2, nu_m3, eq_self, ex_q1, ex_q2, ex_e]; refine K8 _ ?_; clear K11 K10 K9 K8; refine pwx_sr 1 [] (by rfl) fun _ K12 => ?_; refine rgnX_take 1 fun _ K13 => ?_; simp (disch := omega) only [go_sem, nu_0, nu_1, nu_2, nu_3, nu_4, nu_5, nu_8, nu_25, nu_m2, nu_m3, eq_self, ex_q1, ex_q2, ex_e]; refine ⟨_, c_swarfref02_Frac _ _ (by omega) (by omega) (by omega) (by omega) (by omega), ?_⟩; refine K13 _ ?_; refine rgnX_take 1 fun _ K14 => ?_; simp (disch := omega) only [go_sem, nu_0, nu_1, nu_2, nu_3, nu_4, nu_5, nu_8, nu_25, nu_m2, nu_m3, eq_self, ex_q1, ex_q2, ex_e]; refine ⟨_, c_swarflaw05_num _ (by omega) (by omega), ?_⟩; refine K14 _ ?_; refine rgnX_take 1 fun _ K15 => ?_; simp (disch := omega) only [go_sem, nu_0, nu_1, nu_2, nu_3, nu_4, nu_5, nu_8, nu_25, nu_m2, nu_m3, eq_self, ex_q1, ex_q2, ex_e]; refine ⟨_, c_swarflaw05_num _ (by omega) (by omega), ?_⟩; refine K15 _ ?_; refine rgnX_take 2 fun _ K16 => ?_; simp (disch := omega) only [go_sem, nu_0, nu_1, nu_2, nu_3, nu_4, nu_5, nu_8, nu_25, nu_m2, nu_m3, eq_self, ex_q1, ex_q2, ex_e]; refine ⟨_, c_swarflaw05_root _ _ (by omega) (by omega) (by omega) (by omega), ?_⟩; refine K16 _ ?_; refine rgnX_take 1 fun _ K17 => ?_; simp (disch := omega) only [go_sem, nu_0, nu_1, nu_2, nu_3, nu_4, nu_5, nu_8, nu_25, nu_m2, nu_m3, eq_self, ex_q1, ex_q2, ex_e]; refine ⟨_, ex_zero, ?_⟩; refine K17 _ ?_; simp (disch := omega) only [go_sem, nu_0, nu_1, nu_2, nu_3, nu_4, nu_5, nu_8, nu_25, nu_m2, nu_m3, eq_self, ex_q1, ex_q2, ex_e]; refine K12 _ ?_; clear K17 K16 K15 K14 K13 K12; refine pwx_sd Tryz.mixed 0 [some 30, some 31, some 32, some 33, some 34, some 35, some 36, some 37, some 38, some 39, some 40, some 41, some 42, some 43, some 44, some 45, some 46, some 47, some 48, some 49, some 50, some 51, some 52, some 53, some 54, some 55, some 56, some 57, some 58, some 59, some 60, some 61, some 62, some 63, some 64, some 65, some 66, some 67, some 68, some 69, some 70, some 71, some 72, some 73, some 74, some 75, some 76, some 77, some 78, some 79, some 80, some 0] (by rfl) [] (by kernel_rfl) (by simp) fun _ K18 => ?_; refine rgnX_take 1 fun _ K19 => ?_; simp (disch := omega) only [go_sem, nu_0, nu_1, nu_2, nu_3, nu_4, nu_5, nu_8, nu_25, nu_m2, nu_m3, eq_self, ex_q1, ex_q2, ex_e]; refine ⟨_, c_swarflaw05_num _ (by omega) (by omega), ?_⟩; refine K19 _ ?_; refine rgnX_take 1 fun _ K20 => ?_; simp (disch := omega) only [go_sem, nu_0, nu_1, nu_2, nu_3, nu_4, nu_5, nu_8, nu_25, nu_m2, nu_m3, eq_self, ex_q1, ex_q2, ex_e]; refine ⟨_, c_swarflaw05_num _ (by omega) (by omega), ?_⟩; refine K20 _ ?_; refine rgnX_take 1 fun _ K21 => ?_; simp (disch := omega) only [go_sem, nu_0, nu_1, nu_2, nu_3, nu_4, nu_5, nu_8, nu_25, nu_m2, nu_m3, eq_self, ex_q1, ex_q2, ex_e]; refine ⟨_, c_swarflaw05_num _ (by omega) (by omega), ?_⟩; refine K21 _ ?_; refine rgnX_take 1 fun _ K22 => ?_; simp (disch := omega) only [go_sem, nu_0, nu_1, nu_2, nu_3, nu_4, nu_5, nu_8, nu_25, nu_m2, nu_m3, eq_self, ex_q1, ex_q2, ex_e]; refine ⟨_, c_swarflaw05_num _ (by omega) (by omega), ?_⟩; refine K22 _ ?_; refine rgnX_take 1 fun _ K23 => ?_; simp (disch := omega) only [go_sem, nu_0, nu_1, nu_2, nu_3, nu_4, nu_5, nu_8, nu_25, nu_m2, nu_m3, eq_self, ex_q1, ex_q2, ex_e]; refine ⟨_, c_swarflaw05_num _ (by omega) (by omega), ?_⟩; refine K23 _ ?_; refine rgnX_take 1 fun _ K24 => ?_; simp (disch := omega) only [go_sem, nu_0, nu_1, nu_2, nu_3, nu_4, nu_5, nu_8, nu_25, nu_m2, nu_m3, eq_self, ex_q1, ex_q2, ex_e]; refine ⟨_, c_swarflaw05_num _ (by omega) (by omega), ?_⟩; refine K24 _ ?_; refine rgnX_take 2 fun _ K25 => ?_; simp (disch := omega) only [go_sem, nu_0, nu_1, nu_2, nu_3, nu_4, nu_5, nu_8, nu_25, nu_m2, nu_m3, eq_self, ex_q1, ex_q2, ex_e]; refine ⟨_, c_radical_Sign _ _ _ _ _ _ (by omega), ?_⟩; refine K25 _ ?_; refine rgnX_take 3 fun _ K26 => ?_; simp (disch := omega) only [go_sem, nu_0, nu_1, nu_2, nu_3, nu_4, nu_5, nu_8, nu_25, nu_m2, nu_m3, eq_self, ex_q1, ex_q2, ex_e]
  first | refine ⟨_, c_swarflaw05_num _ (by omega) (by omega), ?_⟩ | skip
  refine K26 _ ?_; refine rgnX_take 1 fun _ K27 => ?_; simp (disch := omega) only [go_sem, nu_0, nu_1, nu_2, nu_3, nu_4, nu_5, nu_8, nu_25, nu_m2, nu_m3, eq_self, ex_q1, ex_q2, ex_e]
  first | refine ⟨_, c_swarflaw05_num _ (by omega) (by omega), ?_⟩ | skip
  refine K27 _ ?_; refine rgnX_take 1 fun _ K28 => ?_; simp (disch := omega) only [go_sem, nu_0, nu_1, nu_2, nu_3, nu_4, nu_5, nu_8, nu_25, nu_m2, nu_m3, eq_self, ex_q1, ex_q2, ex_e]
  first | refine ⟨_, c_swarflaw05_num _ (by omega) (by omega), ?_⟩ | skip
  refine K28 _ ?_; refine rgnX_take 1 fun _ K29 => ?_; simp (disch := omega) only [go_sem, nu_0, nu_1, nu_2, nu_3, nu_4, nu_5, nu_8, nu_25, nu_m2, nu_m3, eq_self, ex_q1, ex_q2, ex_e]
  first | refine ⟨_, c_swarflaw05_num _ (by omega) (by omega), ?_⟩ | skip
  refine K29 _ ?_; refine rgnX_take 1 fun _ K30 => ?_; simp (disch := omega) only [go_sem, nu_0, nu_1, nu_2, nu_3, nu_4, nu_5, nu_8, nu_25, nu_m2, nu_m3, eq_self, ex_q1, ex_q2, ex_e]
  first | refine ⟨_, c_swarflaw05_num _ (by omega) (by omega), ?_⟩ | skip
  refine K30 _ ?_; refine rgnX_take 1 fun _ K31 => ?_; simp (disch := omega) only [go_sem, nu_0, nu_1, nu_2, nu_3, nu_4, nu_5, nu_8, nu_25, nu_m2, nu_m3, eq_self, ex_q1, ex_q2, ex_e]
  first | refine ⟨_, c_swarflaw05_num _ (by omega) (by omega), ?_⟩ | skip
  refine K31 _ ?_; refine rgnX_take 2 fun _ K32 => ?_; simp (disch := omega) only [go_sem, nu_0, nu_1, nu_2, nu_3, nu_4, nu_5, nu_8, nu_25, nu_m2, nu_m3, eq_self, ex_q1, ex_q2, ex_e]
  first | refine ⟨_, c_radical_Sign _ _ _ _ _ _ (by omega), ?_⟩ | skip
  refine K32 _ ?_; refine rgnX_take 4 fun _ K33 => ?_; simp (disch := omega) only [go_sem, nu_0, nu_1, nu_2, nu_3, nu_4, nu_5, nu_8, nu_25, nu_m2, nu_m3, eq_self, ex_q1, ex_q2, ex_e]
  first | refine ⟨_, c_swarflaw05_root _ _ (by omega) (by omega) (by omega) (by omega), ?_⟩ | skip
  refine K33 _ ?_; refine rgnX_take 1 fun _ K34 => ?_; simp (disch := omega) only [go_sem, nu_0, nu_1, nu_2, nu_3, nu_4, nu_5, nu_8, nu_25, nu_m2, nu_m3, eq_self, ex_q1, ex_q2, ex_e]
  first | refine ⟨_, c_swarflaw05_root _ _ (by omega) (by omega) (by omega) (by omega), ?_⟩ | skip
  refine K34 _ ?_; refine rgnX_take 1 fun _ K35 => ?_; simp (disch := omega) only [go_sem, nu_0, nu_1, nu_2, nu_3, nu_4, nu_5, nu_8, nu_25, nu_m2, nu_m3, eq_self, ex_q1, ex_q2, ex_e]
  first | refine ⟨_, c_radical_Equal _ _ _ _ _ _ (by omega) (by decide) (by decide), ?_⟩ | skip
  refine K35 _ ?_; refine rgnX_take 12 fun _ K36 => ?_; simp (disch := omega) only [go_sem, nu_0, nu_1, nu_2, nu_3, nu_4, nu_5, nu_8, nu_25, nu_m2, nu_m3, eq_self, ex_q1, ex_q2, ex_e]
  first | refine ⟨_, c_swarfref02_Frac _ _ (by omega) (by omega) (by omega) (by omega) (by omega), ?_⟩ | skip
  refine K36 _ ?_; refine rgnX_take 1 fun _ K37 => ?_; simp (disch := omega) only [go_sem, nu_0, nu_1, nu_2, nu_3, nu_4, nu_5, nu_8, nu_25, nu_m2, nu_m3, eq_self, ex_q1, ex_q2, ex_e]
  first | refine ⟨_, c_swarfref02_Same4 _ _ _ _ (by omega), ?_⟩ | skip
  refine K37 _ ?_; refine rgnX_take 8 fun _ K38 => ?_; simp (disch := omega) only [go_sem, nu_0, nu_1, nu_2, nu_3, nu_4, nu_5, nu_8, nu_25, nu_m2, nu_m3, eq_self, ex_q1, ex_q2, ex_e]
  first | refine ⟨_, c_swarflaw05_num _ (by omega) (by omega), ?_⟩ | skip
  refine K38 _ ?_; refine rgnX_take 1 fun _ K39 => ?_; simp (disch := omega) only [go_sem, nu_0, nu_1, nu_2, nu_3, nu_4, nu_5, nu_8, nu_25, nu_m2, nu_m3, eq_self, ex_q1, ex_q2, ex_e]
  first | refine ⟨_, c_swarfref02_Same4 _ _ _ _ (by omega), ?_⟩ | skip
  refine K39 _ ?_; simp (disch := omega) only [go_sem, nu_0, nu_1, nu_2, nu_3, nu_4, nu_5, nu_8, nu_25, nu_m2, nu_m3, eq_self, ex_q1, ex_q2, ex_e]; refine K18 _ ?_; clear K39 K38 K37 K36 K35 K34 K33 K32 K31 K30 K29 K28 K27 K26 K25 K24 K23 K22 K21 K20 K19 K18; refine pwp_ret ?_; refine ⟨Or.inr rfl, ?_⟩; simp (disch := omega) only [go_sem, nu_0, nu_1, nu_2, nu_3, nu_4, nu_5, nu_8, nu_25, nu_m2, nu_m3, eq_self, ex_q1, ex_q2, ex_e]
  all_goals first | rfl | decide

end Go.Proofs.YtdojhoegildiaaaGreat

namespace Go.PL
open Go.RL
theorem sgn_tr {x y : Re} (h : sgn x ≤ 0) (h' : sgn y ≤ 0) : sgn (x + y) ≤ 0 ∧ (sgn x < 0 ∨ sgn y < 0 → sgn (x + y) = -1) ∧ (sgn x = 0 → sgn y = 0 → sgn (x + y) = 0) := by
  obtain ⟨h1, h2, h3⟩ := nonneg_add (x := -x) (y := -y) (by rw [sgn_neg]; omega) (by rw [sgn_neg]; omega)
  have e : -x + -y = -(x + y) := Re.ext fun n => by simp only [Re.add_s, Re.neg_s]; grind
  rw [e, sgn_neg] at h1 h2 h3
  rw [sgn_neg, sgn_neg] at h2 h3
  exact ⟨by omega, fun q => by have := h2 (by omega); omega, fun q q' => by have := h3 (by omega) (by omega); omega⟩
theorem cmpR_tr {a b c a' b' c' a2 b2 c2 : Rat} (hc : 0 ≤ c) (hc' : 0 ≤ c') (hc2 : 0 ≤ c2) (h : cmpR a b c a' b' c' ≤ 0) (h' : cmpR a' b' c' a2 b2 c2 ≤ 0) :
    cmpR a b c a2 b2 c2 ≤ 0 ∧ (cmpR a b c a' b' c' < 0 ∨ cmpR a' b' c' a2 b2 c2 < 0 → cmpR a b c a2 b2 c2 = -1) ∧ (cmpR a b c a' b' c' = 0 → cmpR a' b' c' a2 b2 c2 = 0 → cmpR a b c a2 b2 c2 = 0) := by
  rw [cmpR_eq hc hc'] at h ⊢
  rw [cmpR_eq hc' hc2] at h' ⊢
  rw [cmpR_eq hc hc2]
  have e : v2 a b c - v2 a2 b2 c2 = (v2 a b c - v2 a' b' c') + (v2 a' b' c' - v2 a2 b2 c2) := Re.ext fun n => by simp only [Re.add_s, Re.sub_s]; grind
  rw [e]
  exact sgn_tr h h'
end Go.PL

set_option linter.unusedSimpArgs false
set_option linter.unusedVariables false
namespace Go.PL
open Go.RL
theorem idx_f1 {sz bs ag zz e k id off} : indexA ⟨sz, bs, ag, zz, .array 4 e⟩ 4 (some (.c (.ptr id off))) (some (.c (.int k 1))) = some (.ptr id (off + 4)) := rfl
theorem idx_f2 {sz bs ag zz e k id off} : indexA ⟨sz, bs, ag, zz, .array 4 e⟩ 4 (some (.c (.ptr id off))) (some (.c (.int k 2))) = some (.ptr id (off + 8)) := rfl
theorem idx_f3 {sz bs ag zz e k id off} : indexA ⟨sz, bs, ag, zz, .array 4 e⟩ 4 (some (.c (.ptr id off))) (some (.c (.int k 3))) = some (.ptr id (off + 12)) := rfl
theorem idx_f0 {sz bs ag zz e k id off} : indexA ⟨sz, bs, ag, zz, .array 4 e⟩ 4 (some (.c (.ptr id off))) (some (.c (.int k 0))) = some (.ptr id off) := rfl
theorem quad_bd (A B C D M N : Rat) : -1 ≤ quad A B C D M N ∧ quad A B C D M N ≤ 1 := by
  by_cases h : M < 0 ∨ N < 0
  · rw [quad_0 h]; decide
  · rw [quad_eq (by grind) (by grind)]
    rcases sgn_cases (v4 A B C D M N) with ⟨_, q⟩ | ⟨_, q⟩ | ⟨_, q⟩ <;> omega
theorem u16_nn (m : Nat) : (0 : Rat) ≤ ((m : Int) : Rat) := by exact_mod_cast Int.natCast_nonneg m
theorem rz_1 {x y a : Rat} (hx : 0 ≤ x) (hy : 0 ≤ y) : quad 0 a 0 0 (x * y) 0 = -quad 0 0 0 (-a) x y := by
  have hxy := Rat.mul_nonneg hx hy
  rw [quad_eq hxy Rat.le_refl, quad_eq hx hy]
  have e1 : v4 0 a 0 0 (x * y) 0 = Re.of a * rt (x * y) := Re.ext fun n => by simp only [v4, v2, Re.add_s, Re.mul_s, Re.of_s]; grind
  have e2 : v4 0 0 0 (-a) x y = -(Re.of a * (rt x * rt y)) := Re.ext fun n => by simp only [v4, v2, Re.add_s, Re.mul_s, Re.of_s, Re.neg_s]; grind
  rw [e1, e2, sgn_neg, Int.neg_neg, sgn_mul, sgn_mul, sgn_mul, sgn_rt hxy, sgn_rt hx, sgn_rt hy, sgnQ_mul]
theorem rz_2 {x a : Rat} (hx : 0 ≤ x) : quad 0 a (-2 * a) 0 (4 * x) x = 0 := by
  have h4 : (0 : Rat) ≤ 4 * x := Rat.mul_nonneg (by decide) hx
  rw [quad_eq h4 hx]
  refine sgn_zero.2 ?_
  have h1 : eqv (Re.of 2 * rt x) (rt (4 * x)) := by
    refine rt_unique (nn_mul (nn_of.2 (by decide)) (rt_nonneg x)) ?_
    have e : Re.of 2 * rt x * (Re.of 2 * rt x) - Re.of (4 * x) = Re.of 4 * (rt x * rt x - Re.of x) := Re.ext fun n => by simp only [Re.sub_s, Re.mul_s, Re.of_s]; grind
    show null _
    rw [e]; exact null_mul' _ (rt_sq hx)
  have e : v4 0 a (-2 * a) 0 (4 * x) x = Re.of (-a) * (Re.of 2 * rt x - rt (4 * x)) := Re.ext fun n => by simp only [v4, v2, Re.add_s, Re.sub_s, Re.mul_s, Re.of_s]; grind
  rw [e]; exact null_mul' _ h1
section
variable {a b c a' b' c' a2 b2 c2 k : Rat}
theorem ord_1 (hc : 0 ≤ c) (hc' : 0 ≤ c') (hc2 : 0 ≤ c2) (h : 0 ≤ cmpR a b c a' b' c') (h' : 0 ≤ cmpR a' b' c' a2 b2 c2) : cmpR a b c a' b' c' ≤ cmpR a b c a2 b2 c2 ∧ cmpR a' b' c' a2 b2 c2 ≤ cmpR a b c a2 b2 c2 := by
  have s1 := cmpR_swap (a := a) (b := b) (a' := a') (b' := b') hc hc'
  have s2 := cmpR_swap (a := a') (b := b') (a' := a2) (b' := b2) hc' hc2
  have s3 := cmpR_swap (a := a) (b := b) (a' := a2) (b' := b2) hc hc2
  obtain ⟨t1, t2⟩ := cmpR_tr (a := a2) (b := b2) (a' := a') (b' := b') (a2 := a) (b2 := b) hc2 hc' hc (by omega) (by omega)
  have d1 := cmpR_bd a b c a' b' c' hc hc'
  have d2 := cmpR_bd a' b' c' a2 b2 c2 hc' hc2
  rw [s1, s2, s3] at t2
  rw [s3] at t1
  constructor <;> omega
theorem ord_2 (hc : 0 ≤ c) (hc' : 0 ≤ c') (hc2 : 0 ≤ c2) (h : cmpR a b c a' b' c' ≤ 0) (h' : cmpR a' b' c' a2 b2 c2 ≤ 0) : cmpR a b c a2 b2 c2 ≤ cmpR a b c a' b' c' ∧ cmpR a b c a2 b2 c2 ≤ cmpR a' b' c' a2 b2 c2 := by
  obtain ⟨t1, t2⟩ := cmpR_tr (a2 := a2) (b2 := b2) hc hc' hc2 h h'
  have d1 := cmpR_bd a b c a' b' c' hc hc'
  have d2 := cmpR_bd a' b' c' a2 b2 c2 hc' hc2
  constructor <;> omega
theorem ord_3 (hc : 0 ≤ c) (hc' : 0 ≤ c') : cmpR (a + k) b c (a' + k) b' c' = cmpR a b c a' b' c' := by
  rw [cmpR_eq hc hc', cmpR_eq hc hc']
  congr 1
  apply Re.ext; intro n
  simp only [v2, Re.sub_s, Re.add_s, Re.mul_s, Re.of_s]; grind
theorem ord_4 (hc : 0 ≤ c) (hc' : 0 ≤ c') : cmpR (a * k) (b * k) c (a' * k) (b' * k) c' = cmpR a b c a' b' c' * sgnQ k := by
  rw [cmpR_eq hc hc', cmpR_eq hc hc', ← sgn_of, ← sgn_mul]
  congr 1
  apply Re.ext; intro n
  simp only [v2, Re.sub_s, Re.add_s, Re.mul_s, Re.of_s]; grind
theorem ite_max {x y : Int} : (if x < y then y else x) = max x y := by split <;> omega
theorem ite_min {x y : Int} : (if y < x then y else x) = min x y := by split <;> omega
theorem seven {x y z : Int} (h1 : 0 ≤ x → 0 ≤ y → x ≤ z ∧ y ≤ z) (h2 : x ≤ 0 → y ≤ 0 → z ≤ x ∧ z ≤ y) :
    (x < 0 ∧ 0 < y) ∨ (x < 0 ∧ y ≤ 0 ∧ z ≤ x ∧ z ≤ y) ∨ (0 < x ∧ y < 0) ∨ (x = 0 ∧ y < 0 ∧ z ≤ x ∧ z ≤ y) ∨ (0 < x ∧ 0 ≤ y ∧ x ≤ z ∧ y ≤ z) ∨ (x = 0 ∧ 0 < y ∧ x ≤ z ∧ y ≤ z) ∨ (x = 0 ∧ y = 0 ∧ z = 0) := by
  rcases Int.lt_trichotomy x 0 with c | c | c <;> rcases Int.lt_trichotomy y 0 with d | d | d <;> omega
theorem simplest_a {x : Rat} (h : Simp (Btw a b c a' b' c') x) (hc : 0 ≤ c) (hc' : 0 ≤ c') (h1 : x.den = 1) (h0 : ¬ x = 0) (hs : ¬ 0 ≤ two (a - (x - ((sgnQ x : Int) : Rat))) b c) : two (a' - (x - ((sgnQ x : Int) : Rat))) b' c' ≤ 0 := by
  rcases Int.lt_or_le 0 (two (a' - (x - ((sgnQ x : Int) : Rat))) b' c') with k | k
  · exfalso
    rw [two_eq hc] at hs
    rw [two_eq hc'] at k
    have e := den1 h1
    have hI : Btw a b c a' b' c' (x - ((sgnQ x : Int) : Rat)) := by
      refine ⟨?_, ?_⟩
      · rcases sgn_cases (v2 (a - (x - ((sgnQ x : Int) : Rat))) b c) with ⟨_, q⟩ | ⟨_, q⟩ | ⟨_, q⟩ <;> omega
      · have := sgn_le_one (v2 (a' - (x - ((sgnQ x : Int) : Rat))) b' c'); omega
    have e2 : x - ((sgnQ x : Int) : Rat) = ((x.num - sgnQ x : Int) : Rat) := by rw [Rat.intCast_sub, ← e]
    have hn : (x - ((sgnQ x : Int) : Rat)).num = x.num - sgnQ x := by rw [e2]; rfl
    have hd : (x - ((sgnQ x : Int) : Rat)).den = 1 := by rw [e2]; rfl
    have h2 := h.2.2 h1 _ hI hd
    rw [hn] at h2
    have hx0 : x.num ≠ 0 := num_ne h0
    rcases Int.lt_or_gt_of_ne hx0 with q | q
    · have : sgnQ x = -1 := by have h3 := (sgnQ_ltz x).symm ▸ (num_neg_iff.1 q : x < 0); have := sgnQ_bd x; omega
      omega
    · have : sgnQ x = 1 := sgnQ_pos (num_pos_iff.1 q)
      omega
  · exact k
theorem simplest_b {x : Rat} {q : Int} (h : Simp (Btw a b c a' b' c') x) (hr : Rdc b c) (hc' : 0 ≤ c') (hq : 0 < q) (hd : q < x.den) : ¬ 0 < two (a' - (((flR (a * (q : Rat)) (b * (q : Rat)) c : Int) : Rat) + 1) / (q : Rat)) b' c' := by
  intro k
  have f2 := flR_lt (a := a * (q : Rat)) (hr.scale (q : Rat))
  generalize flR (a * (q : Rat)) (b * (q : Rat)) c = f at *
  have hq0 : (q : Rat) ≠ 0 := cast_ne (by omega)
  have em : ((f : Rat) + 1) / (q : Rat) * (q : Rat) = (f : Rat) + 1 := Rat.div_mul_cancel hq0
  have e : ((f : Rat) + 1) / (q : Rat) = Rat.divInt (f + 1) q := eq_divInt (by omega) (by rw [em, i1a])
  have hz : (((f : Rat) + 1) / (q : Rat)).den ≤ q.natAbs := by rw [e]; exact (divInt_le (f + 1) q (by omega)).2
  generalize ((f : Rat) + 1) / (q : Rat) = z at *
  have hqp := cast_pos hq
  have hI : Btw a b c a' b' c' z := by
    rw [two_eq hc'] at k
    refine ⟨?_, by have := sgn_le_one (v2 (a' - z) b' c'); omega⟩
    have e3 : v2 (a * (q : Rat) - ((f : Rat) + 1)) (b * (q : Rat)) c = Re.of (q : Rat) * v2 (a - z) b c := Re.ext fun n => by rw [← em]; simp only [v2, Re.add_s, Re.mul_s, Re.of_s]; grind
    rw [e3, sgn_mul, sgn_of, sgnQ_pos (by grind), Int.one_mul] at f2
    exact f2
  have := h.2.1 z hI
  omega
end
end Go.PL
