/- The simplest fraction between two short roots: both ways to it. Conditions: each lemma's own.
   The simplest fraction between two roots, by the program and by the reference. Conditions: none.
   Points of any numbers in the walks. Conditions: each lemma's own.
   Lists of fractions of any form, and of roots, in the walks. Conditions: each lemma's own.
   The walks of smallness. Conditions: none.
   The examples of the chapter on signs of sums with roots, and sums, in the walks. Conditions: each lemma's own.
   The walk of the examples of the chapter on signs of sums with roots. Conditions: none.
   The order of points, in plain terms. Conditions: each lemma's own.
   The laws of signs of sums with roots, in plain terms. Conditions: each lemma's own.
   Statements on signs of sums with roots. Conditions: none.
   The arguments of a row, opened: what they stand for. Conditions: none (lemmas).
   The arguments of the rows, opened. Conditions: none. -/
import Derived.WalkKit
import Derived.ProofKit
import Derived.OpenShut
import Derived.ChangeOld
import Derived.Below
import Derived.Carry
import Derived.ChangeSlices
import Derived.Test.YtdojhoegildiaaaGreatRows
import Derived.Test.YtdojhoegildiaaaGreatQ7
set_option linter.unusedVariables false
set_option linter.unusedSimpArgs false
set_option linter.unusedSimpArgs false
set_option linter.unusedVariables false
namespace Go.PL
open Go.RL
theorem Rdc.neg {b c : Rat} (h : Rdc b c) : Rdc (-b) c := ⟨h.1, h.2.imp (fun q => by rw [q]; rfl) id⟩
theorem fits {a b c a' b' c' : Rat} [SzR a 2] [SzR b 2] [SzR c 2] [SzR a' 2] [SzR b' 2] [SzR c' 2] (hc : 0 ≤ c) (hc' : 0 ≤ c') (d : Nat) (hd : SzI (d : Int) 301) :
    ∃ K : Int, SzI K 329 ∧ Fit K d a b c ∧ Fit K d a' b' c' := by
  obtain ⟨K, s, f⟩ := Fit.start a b c hc d 301 hd
  obtain ⟨K', s', f'⟩ := Fit.start a' b' c' hc' d 301 hd
  have h1 := f.nn; have h2 := f'.nn
  exact ⟨K + K', (inferInstance : SzI (K + K') _).mono (by omega), f.monoK (by omega), f'.monoK (by omega)⟩
theorem cmpR_lt1 {a b c a' b' c' : Rat} (hc : 0 ≤ c) (hc' : 0 ≤ c') (h : cmpR a b c a' b' c' < 0) : sgn (v2 a' b' c' - v2 a b c) = 1 := by
  rw [cmpR_eq hc hc'] at h
  have e : v2 a' b' c' - v2 a b c = -(v2 a b c - v2 a' b' c') := Re.ext fun n => by simp only [Re.sub_s, Re.neg_s]; grind
  rw [e, sgn_neg]
  rcases sgn_cases (v2 a b c - v2 a' b' c') with ⟨_, q⟩ | ⟨_, q⟩ | ⟨_, q⟩ <;> omega
/-- The way between roots that are not negative. -/
theorem bt_pos {a b c a' b' c' : Rat} [SzR a 2] [SzR b 2] [SzR c 2] [SzR a' 2] [SzR b' 2] [SzR c' 2] (h : Rdc b c) (h' : Rdc b' c') (z : b = 0 → c = 0) (z' : b' = 0 → c' = 0) (h0 : 0 ≤ sgn (v2 a b c)) (hs : sgn (v2 a' b' c' - v2 a b c) = 1) :
    ∃ x, Bt a b c a' b' c' x ∧ SimpP (Btw a b c a' b' c') x ∧ SzR x 700 := by
  obtain ⟨u, u1, u2, u3⟩ := dens h h'.1 hs
  obtain ⟨K, k1, k2, k3⟩ := fits (a := a) (b := b) (a' := a') (b' := b') h.1 h'.1 u.den u2
  obtain ⟨x, x1, x2⟩ := bt_all k1 u.den a b c a' b' c' u h h' z z' ((inferInstance : SzR c 2).mono (by omega)) ((inferInstance : SzR c' 2).mono (by omega)) k2 k3 h0 u1 (Nat.le_refl _) (u3.mono (by omega)) (u2.mono (by omega))
  obtain ⟨m1, m2⟩ := x2.2 u u1
  have xp : 0 ≤ x.num := by
    have q : 0 < x := v2_le0 (a := a) (b := b) (c := c) (by rw [sub0]; exact h0) x2.1.1
    exact Int.le_of_lt (num_pos_iff.2 q)
  exact ⟨x, x1, x2, (u3.le_of (by omega)).mono (by omega), (u2.le_of (x := (x.den : Int)) (by omega)).mono (by omega)⟩
theorem Btw.neg {a b c a' b' c' z : Rat} : Btw a b c a' b' c' z ↔ Btw (-a') (-b') c' (-a) (-b) c (-z) := by
  unfold Btw
  have e1 : v2 (-a' - -z) (-b') c' = -v2 (a' - z) b' c' := by rw [← v2_neg]; congr 1; grind
  have e2 : v2 (-a - -z) (-b) c = -v2 (a - z) b c := by rw [← v2_neg]; congr 1; grind
  rw [e1, e2, sgn_neg, sgn_neg]
  constructor <;> (rintro ⟨p, q⟩; exact ⟨by omega, by omega⟩)
/-- What the reference's Between meets below 0. -/
inductive Bneg (a b c a' b' c' : Rat) : Rat → Prop where
  | next {n m : Int} (hn : flR a b c = n) (sn : SzI n 700) (h1 : 0 < two (a' - ((n : Rat) + 1)) b' c') (hm : flR a' b' c' = m) (sm : SzI m 700) (h2 : two (a' - (m : Rat)) b' c' = 0) : Bneg a b c a' b' c' ((m : Rat) - 1)
  | nextb {n m : Int} (hn : flR a b c = n) (sn : SzI n 700) (h1 : 0 < two (a' - ((n : Rat) + 1)) b' c') (hm : flR a' b' c' = m) (sm : SzI m 700) (h2 : ¬ two (a' - (m : Rat)) b' c' = 0) : Bneg a b c a' b' c' (m : Rat)
  | last {n m : Int} (hn : flR a b c = n) (sn : SzI n 700) (h1 : ¬ 0 < two (a' - ((n : Rat) + 1)) b' c') (h2 : two (a - (n : Rat)) b c = 0)
      (hN : nm a' b' c' n ≠ 0) (hm : flR (ivA a' b' c' n) (ivB a' b' c' n) (ivC a' b' c' n) = m) (sA : SzR (ivA a' b' c' n) 330) (sB : SzR (ivB a' b' c' n) 330) (sC : SzR (ivC a' b' c' n) 330)
      (hr : Rdc (ivB a' b' c' n) (ivC a' b' c' n)) (sm : SzI m 1000) (hy : (m : Rat) + 1 ≠ 0) : Bneg a b c a' b' c' ((n : Rat) + 1 / ((m : Rat) + 1))
  | step {n : Int} {y : Rat} (hn : flR a b c = n) (sn : SzI n 700) (h1 : ¬ 0 < two (a' - ((n : Rat) + 1)) b' c') (h2 : ¬ two (a - (n : Rat)) b c = 0)
      (hN : nm a' b' c' n ≠ 0) (hN' : nm a b c n ≠ 0) (sy : SzR y 1000) (hy : y ≠ 0)
      (r : Bt (ivA a' b' c' n) (ivB a' b' c' n) (ivC a' b' c' n) (ivA a b c n) (ivB a b c n) (ivC a b c n) y) : Bneg a b c a' b' c' ((n : Rat) + 1 / y)
theorem Simp.frac {I : Rat → Prop} {n : Int} {x : Rat} (hI : ∀ z, I z → (n : Rat) < z ∧ z < (n : Rat) + 1) (hx : I x) (h : ∀ z, I z → x.den ≤ z.den) : Simp I x := by
  refine ⟨hx, h, fun h1 z hz hz1 => ?_⟩
  exfalso
  obtain ⟨q1, q2⟩ := hI x hx
  rw [den1 h1] at q1 q2
  rw [i1a] at q2
  have a1 : n < x.num := by exact_mod_cast q1
  have a2 : x.num < n + 1 := by exact_mod_cast q2
  omega
/-- The reference's way between roots of which the first is negative and the second not positive. -/
theorem bneg {a b c a' b' c' : Rat} [SzR a 2] [SzR b 2] [SzR c 2] [SzR a' 2] [SzR b' 2] [SzR c' 2] (h : Rdc b c) (h' : Rdc b' c') (z : b = 0 → c = 0) (z' : b' = 0 → c' = 0) (h0 : sgn (v2 a' b' c') ≤ 0) (hs : sgn (v2 a' b' c' - v2 a b c) = 1) :
    ∃ x, Bneg a b c a' b' c' x ∧ Simp (Btw a b c a' b' c') x := by
  obtain ⟨u, u1, u2, u3⟩ := dens h h'.1 hs
  obtain ⟨K, k1, k2, k3⟩ := fits (a := a) (b := b) (a' := a') (b' := b') h.1 h'.1 u.den u2
  obtain ⟨f1, _⟩ := flR_spec (a := a) (b := b) h.1
  have f2 := flR_lt (a := a) h
  have sn : SzI (flR a b c) 700 := (flR_sz h).mono (by omega)
  obtain ⟨n, hn⟩ : ∃ n, flR a b c = n := ⟨_, rfl⟩
  rw [hn] at f1 f2 sn
  have hnz : ∀ u, Btw a b c a' b' c' u → (n : Rat) < u := fun u hu => v2_le0 f1 hu.1
  by_cases h1 : 0 < two (a' - ((n : Rat) + 1)) b' c'
  · obtain ⟨g1, _⟩ := flR_spec (a := a') (b := b') h'.1
    have g2 := flR_lt (a := a') h'
    have sm : SzI (flR a' b' c') 700 := (flR_sz h').mono (by omega)
    obtain ⟨m, hm⟩ : ∃ m, flR a' b' c' = m := ⟨_, rfl⟩
    rw [hm] at g1 g2 sm
    have h1' := h1
    rw [two_eq h'.1] at h1'
    have q1 : sgn (v2 (a' - ((n : Rat) + 1)) b' c') = 1 := by have := sgn_le_one (v2 (a' - ((n : Rat) + 1)) b' c'); omega
    -- every integer below the second root is not greater than the answer
    have fin : ∀ x : Int, Btw a b c a' b' c' (x : Rat) → (∀ v : Int, sgn (v2 (a' - (v : Rat)) b' c') = 1 → v ≤ x) → Simp (Btw a b c a' b' c') (x : Rat) := by
      intro x hx hmax
      have xneg : x < 0 := by
        have : (x : Rat) < 0 := v2_ge0 hx.2 (by rw [sub0]; exact h0)
        exact_mod_cast this
      refine ⟨hx, fun v hv => ?_, fun _ v hv hd => ?_⟩
      · have : ((x : Int) : Rat).den = 1 := rfl
        have := v.den_pos; omega
      · have e := den1 hd
        have hv2 := hv.2
        rw [e] at hv2
        have := hmax v.num hv2
        have vneg : v.num < 0 := by
          have : v < 0 := v2_ge0 hv.2 (by rw [sub0]; exact h0)
          exact num_neg_iff.2 this
        show x.natAbs ≤ v.num.natAbs
        omega
    by_cases h2 : two (a' - (m : Rat)) b' c' = 0
    · refine ⟨_, .next hn sn h1 hm sm h2, ?_⟩
      rw [two_eq h'.1] at h2
      rw [i1s]
      refine fin (m - 1) ⟨?_, ?_⟩ fun v hv => ?_
      · have hlt : (n : Rat) + 1 < (m : Rat) := v2_ge0 q1 (by omega)
        rw [i1a] at hlt
        have : n + 1 < m := by exact_mod_cast hlt
        refine v2_mono_neg f2 ?_
        rw [i1a]; exact_mod_cast (show n + 1 ≤ m - 1 by omega)
      · have e : v2 (a' - ((m - 1 : Int) : Rat)) b' c' = Re.of 1 + v2 (a' - (m : Rat)) b' c' := Re.ext fun k => by rw [← i1s]; simp only [v2, Re.add_s, Re.mul_s, Re.of_s]; grind
        rw [e, sgn_add_null _ (sgn_zero.1 h2), sgn_of1]
      · have : (v : Rat) < (m : Rat) := v2_ge0 hv (by omega)
        have : v < m := by exact_mod_cast this
        omega
    · refine ⟨_, .nextb hn sn h1 hm sm h2, ?_⟩
      rw [two_eq h'.1] at h2
      have g3 : sgn (v2 (a' - (m : Rat)) b' c') = 1 := by have := sgn_le_one (v2 (a' - (m : Rat)) b' c'); omega
      have hmx : ∀ v : Int, sgn (v2 (a' - (v : Rat)) b' c') = 1 → v ≤ m := fun v hv => by
        have : (v : Rat) < (m : Rat) + 1 := v2_ge0 hv (by omega)
        rw [i1a] at this
        have : v < m + 1 := by exact_mod_cast this
        omega
      refine fin m ⟨?_, g3⟩ hmx
      refine v2_mono_neg f2 ?_
      have := hmx (n + 1) (by rw [← i1a]; exact q1)
      rw [i1a]; exact_mod_cast this
  have h1' : sgn (v2 (a' - ((n : Rat) + 1)) b' c') ≤ 0 := by rw [two_eq h'.1] at h1; omega
  have hz1 : ∀ u, Btw a b c a' b' c' u → u < (n : Rat) + 1 := fun u hu => v2_ge0 hu.2 h1'
  have t' : sgn (v2 (a' - (n : Rat)) b' c') = 1 := v2_mono_pos u1.2 (by have := hnz u u1; grind)
  have hN : nm a' b' c' n ≠ 0 := norm_ne h' (by rw [t']; decide)
  obtain ⟨d, hd⟩ : ∃ d, u.den = d + 1 := ⟨u.den - 1, by have := u.den_pos; omega⟩
  rw [hd] at k2 k3
  have hF' := k3.step h'.1 n (by omega) (v2_one h1') rfl hN
  obtain ⟨sA, sB⟩ := hF'.size k1
  have sc : SzR c 330 := (inferInstance : SzR c 2).mono (by omega)
  have sc' : SzR c' 330 := (inferInstance : SzR c' 2).mono (by omega)
  have sC : SzR (ivC a' b' c' n) 330 := rC_sz sc' (by omega)
  have hR' : Rdc (ivB a' b' c' n) (ivC a' b' c' n) := h'.inv _
  have hP' := inv_pos h'.1 hN t'
  by_cases h2 : two (a - (n : Rat)) b c = 0
  · have h2' : sgn (v2 (a - (n : Rat)) b c) = 0 := by rwa [two_eq h.1] at h2
    obtain ⟨g1, _⟩ := flR_spec (a := ivA a' b' c' n) (b := ivB a' b' c' n) hR'.1
    have g2 := flR_lt (a := ivA a' b' c' n) hR'
    have sm : SzI (flR (ivA a' b' c' n) (ivB a' b' c' n) (ivC a' b' c' n)) 1000 := (flR_sz hR').mono (by omega)
    obtain ⟨m, hm⟩ : ∃ m, flR (ivA a' b' c' n) (ivB a' b' c' n) (ivC a' b' c' n) = m := ⟨_, rfl⟩
    rw [hm] at g1 g2 sm
    have hP1 : 0 ≤ sgn (v2 (ivA a' b' c' n - 1) (ivB a' b' c' n) (ivC a' b' c' n)) := by
      rw [inv_sgn h'.1 hN t' (by decide), show (1 : Rat) / 1 = 1 by grind]; omega
    have m0 : 0 ≤ m := by
      have q1 : (1 : Rat) < (m : Rat) + 1 := v2_le0 hP1 g2
      rw [i1a] at q1
      have : (1 : Int) < m + 1 := by exact_mod_cast q1
      omega
    have mp : (0 : Rat) < (m : Rat) + 1 := by
      rw [i1a]; exact_mod_cast (show 0 < m + 1 by omega)
    refine ⟨_, .last hn sn h1 h2 hN hm sA sB sC hR' sm (by grind), ?_⟩
    have hJ : ∀ w : Rat, 0 < w → (sgn (v2 (ivA a' b' c' n - w) (ivB a' b' c' n) (ivC a' b' c' n)) = -1 ↔ Btw a b c a' b' c' ((n : Rat) + 1 / w)) := by
      intro w hw
      have hwi := div_pos (show (0 : Rat) < 1 by decide) hw
      rw [inv_sgn h'.1 hN t' hw]
      constructor
      · intro q
        refine ⟨?_, by omega⟩
        have q1 : sgn (-v2 (a - (n : Rat)) b c + Re.of (1 / w)) = 1 :=
          (nonneg_add (x := -v2 (a - (n : Rat)) b c) (y := Re.of (1 / w)) (by rw [sgn_neg]; omega) (nn_of.2 (Rat.le_of_lt hwi))).2.1 (.inr (by rw [sgn_of, sgnQ_pos hwi]; decide))
        have q2 : v2 (a - ((n : Rat) + 1 / w)) b c = -(-v2 (a - (n : Rat)) b c + Re.of (1 / w)) := Re.ext fun k => by simp only [v2, Re.add_s, Re.mul_s, Re.of_s, Re.neg_s]; grind
        rw [q2, sgn_neg, q1]
      · intro q; have := q.2; omega
    have hy := SimpP.next (I := fun w => 0 < w ∧ sgn (v2 (ivA a' b' c' n - w) (ivB a' b' c' n) (ivC a' b' c' n)) = -1) (n := m) ⟨by rw [Rat.intCast_add, ic1]; exact mp, by rw [Rat.intCast_add, ic1]; exact g2⟩ m0 (fun u hu => v2_le0 g1 hu.2)
    rw [Rat.intCast_add, ic1] at hy
    obtain ⟨r1, r2⟩ := SimpP.den_step (I := Btw a b c a' b' c') (n := n) (fun w hw => ⟨fun q => (hJ w hw).1 q.2, fun q => ⟨hw, (hJ w hw).2 q⟩⟩) hnz mp hy
    exact Simp.frac (fun v hv => ⟨hnz v hv, hz1 v hv⟩) r1 fun v hv => (r2 v hv).1
  · have t : sgn (v2 (a - (n : Rat)) b c) = 1 := by
      rw [two_eq h.1] at h2
      have := sgn_le_one (v2 (a - (n : Rat)) b c); omega
    have hN0 : nm a b c n ≠ 0 := norm_ne h (by rw [t]; decide)
    have hF := k2.step h.1 n f1 (v2_one (by omega)) rfl hN0
    have sC0 : SzR (ivC a b c n) 330 := rC_sz sc (by omega)
    have hJ : ∀ w : Rat, 0 < w → (Btw (ivA a' b' c' n) (ivB a' b' c' n) (ivC a' b' c' n) (ivA a b c n) (ivB a b c n) (ivC a b c n) w ↔ Btw a b c a' b' c' ((n : Rat) + 1 / w)) := by
      intro w hw
      unfold Btw
      rw [inv_sgn h'.1 hN t' hw, inv_sgn h.1 hN0 t hw]
      constructor
      · intro q; exact ⟨by omega, by omega⟩
      · intro q; exact ⟨by omega, by omega⟩
    have hJ0 : ∀ w : Rat, Btw (ivA a' b' c' n) (ivB a' b' c' n) (ivC a' b' c' n) (ivA a b c n) (ivB a b c n) (ivC a b c n) w → 0 < w := fun w hw =>
      v2_le0 (a := ivA a' b' c' n) (b := ivB a' b' c' n) (c := ivC a' b' c' n) (by rw [sub0]; omega) hw.1
    obtain ⟨w0, w1, w2, w3⟩ := step_den (hnz u u1) (hz1 u u1)
    have hw := (hJ _ w0).2 (by rw [w1]; exact u1)
    have su : SzI (u.den : Int) 700 := u2.mono (by omega)
    obtain ⟨y, y1, y2⟩ := bt_all k1 d _ _ _ _ _ _ _ hR' (h.inv _) (fun q => rC_z q) (fun q => rC_z q) sC sC0 hF' hF (nn_1 hP') hw (by omega) (su.le_of (by omega)) (su.le_of (by omega))
    have yp := hJ0 y y2.1
    obtain ⟨v1, v2'⟩ := y2.2 _ hw
    have yn := num_pos_iff.2 yp
    have sy : SzR y 1000 := ⟨(su.le_of (x := y.num) (by omega)).mono (by omega), (su.le_of (x := (y.den : Int)) (by omega)).mono (by omega)⟩
    refine ⟨_, .step hn sn h1 h2 hN hN0 sy (by grind) y1, ?_⟩
    obtain ⟨r1, r2⟩ := SimpP.den_step (I := Btw a b c a' b' c') (n := n) hJ hnz yp y2
    exact Simp.frac (fun v hv => ⟨hnz v hv, hz1 v hv⟩) r1 fun v hv => (r2 v hv).1
end Go.PL

set_option linter.unusedSimpArgs false
set_option linter.unusedVariables false
set_option maxRecDepth 20000
namespace Go.Proofs.YtdojhoegildiaaaGreat
open Go Go.PL Go.RL
theorem r_bneg {a b c a' b' c' x : Rat} [SzR a 2] [SzR b 2] [SzR c 2] [SzR a' 2] [SzR b' 2] [SzR c' 2] (h : Rdc b c) (h' : Rdc b' c') (z : b = 0 → c = 0) (z' : b' = 0 → c' = 0) (h0 : ¬ 0 < two (a' - 0) b' c') (k0 : two (a - 0) b c < 0) (hx : Bneg a b c a' b' c' x) : Ret Tryz.prog 28 [.a (ratC (a) ++ (ratC (b) ++ ratC (c))), .a (ratC (a') ++ (ratC (b') ++ ratC (c')))] (.e (.a (ratC x))) := by
  haveI i330_0 : SzR a 330 := (inferInstance : SzR a 2).mono (by omega)
  haveI i330_1 : SzR b 330 := (inferInstance : SzR b 2).mono (by omega)
  haveI i330_2 : SzR c 330 := (inferInstance : SzR c 2).mono (by omega)
  haveI i330_3 : SzR a' 330 := (inferInstance : SzR a' 2).mono (by omega)
  haveI i330_4 : SzR b' 330 := (inferInstance : SzR b' 2).mono (by omega)
  haveI i330_5 : SzR c' 330 := (inferInstance : SzR c' 2).mono (by omega)
  cases hx with
  | next hn sn h1 hm sm h2 => exact c_rBetween_2a _ _ _ _ _ _ h h' _ hn h0 k0 h1 _ hm h2
  | nextb hn sn h1 hm sm h2 => exact c_rBetween_2b _ _ _ _ _ _ h h' _ hn h0 k0 h1 _ hm h2
  | last hn sn h1 h2 hN hm sA sB sC hr sm hy => exact c_rBetween_3m _ _ _ _ _ _ h h' _ hn h0 z z' h1 h2 hN _ hm hr hy
  | step hn sn h1 h2 hN hN' sy hy r => exact c_rBetween_4m _ _ _ _ _ _ h h' _ hn h0 z z' h1 h2 hN hN' _ hy (r_rBetween r)
theorem betweens {a b c a' b' c' : Rat} [SzR a 2] [SzR b 2] [SzR c 2] [SzR a' 2] [SzR b' 2] [SzR c' 2] (h : Rdc b c) (h' : Rdc b' c') (z : b = 0 → c = 0) (z' : b' = 0 → c' = 0) (hlt : cmpR a b c a' b' c' < 0) :
    ∃ x, SzR x 700 ∧ Simp (Btw a b c a' b' c') x ∧ Ret Tryz.prog 23 [.a (ratC (a) ++ (ratC (b) ++ ratC (c))), .a (ratC (a') ++ (ratC (b') ++ ratC (c')))] (.t [.a (ratC x), .c (.int .i64 0)]) ∧ Ret Tryz.prog 28 [.a (ratC (a) ++ (ratC (b) ++ ratC (c))), .a (ratC (a') ++ (ratC (b') ++ ratC (c')))] (.e (.a (ratC x))) := by
  have hs := cmpR_lt1 h.1 h'.1 hlt
  have hlt' : ¬ 0 ≤ cmpR a b c a' b' c' := by omega
  have e0 : sgn (v2 a b c) = two (a - 0) b c := by rw [two_eq h.1, sub0]
  have e1 : sgn (v2 a' b' c') = two (a' - 0) b' c' := by rw [two_eq h'.1, sub0]
  by_cases k1 : two (a - 0) b c < 0
  · by_cases k2 : 0 < two (a' - 0) b' c'
    · refine ⟨0, (inferInstance : SzR (0 : Rat) 1).mono (by omega), ⟨⟨?_, ?_⟩, fun v _ => v.den_pos, fun _ v _ _ => Nat.zero_le _⟩, c_Between_1 _ _ _ _ _ _ h.1 h'.1 hlt' k1 k2, ?_⟩
      · rw [two_eq h.1] at k1
        rcases sgn_cases (v2 (a - 0) b c) with ⟨_, q⟩ | ⟨_, q⟩ | ⟨_, q⟩ <;> omega
      · rw [two_eq h'.1] at k2
        have := sgn_le_one (v2 (a' - 0) b' c'); omega
      · haveI : SzR a 330 := (inferInstance : SzR a 2).mono (by omega)
        haveI : SzR b 330 := (inferInstance : SzR b 2).mono (by omega)
        haveI : SzR c 330 := (inferInstance : SzR c 2).mono (by omega)
        haveI : SzR a' 330 := (inferInstance : SzR a' 2).mono (by omega)
        haveI : SzR b' 330 := (inferInstance : SzR b' 2).mono (by omega)
        haveI : SzR c' 330 := (inferInstance : SzR c' 2).mono (by omega)
        exact c_rBetween_z _ _ _ _ _ _ h h' k1 k2
    · obtain ⟨x, x1, x2⟩ := bneg h h' z z' (by omega) hs
      haveI n1 : SzR (-a') 2 := inferInstance
      haveI n2 : SzR (-b') 2 := inferInstance
      haveI n3 : SzR (-a) 2 := inferInstance
      haveI n4 : SzR (-b) 2 := inferInstance
      obtain ⟨y, y1, y2, y3⟩ := bt_pos (a := -a') (b := -b') (c := c') (a' := -a) (b' := -b) (c' := c) h'.neg h.neg (fun q => z' (by grind)) (fun q => z (by grind)) (by rw [v2_neg, sgn_neg]; omega)
        (by
          have e : v2 (-a) (-b) c - v2 (-a') (-b') c' = v2 a' b' c' - v2 a b c := Re.ext fun n => by rw [v2_neg, v2_neg]; simp only [Re.sub_s, Re.neg_s]; grind
          rw [e]; exact hs)
      have ys : Simp (Btw (-a') (-b') c' (-a) (-b) c) y := y2.simp fun u hu => Rat.le_of_lt (v2_le0 (a := -a') (b := -b') (c := c') (by rw [sub0, v2_neg, sgn_neg]; omega) hu.1)
      have e : x = -y := Simp.uniq (fun u v w => Btw.conv) x2 (ys.neg fun u => Btw.neg)
      have hx := r_bneg h h' z z' k2 k1 x1
      subst e
      haveI := y3
      exact ⟨-y, inferInstance, x2, c_Between_2 _ _ _ _ _ _ h.1 h'.1 hlt' k2 (by omega) y (r_between y1), hx⟩
  · obtain ⟨x, x1, x2, x3⟩ := bt_pos h h' z z' (by omega) hs
    haveI := x3
    have hp : ¬ two (a' - 0) b' c' ≤ 0 := by
      have q : 0 < x := v2_le0 (a := a) (b := b) (c := c) (by rw [sub0]; omega) x2.1.1
      have := v2_mono_pos x2.1.2 (Rat.le_of_lt q)
      rw [two_eq h'.1, this]; decide
    exact ⟨x, x3, x2.simp fun u hu => Rat.le_of_lt (v2_le0 (a := a) (b := b) (c := c) (by rw [sub0]; omega) hu.1), c_Between_3 _ _ _ _ _ _ h.1 h'.1 hlt' k1 hp x (r_between x1), r_rBetween x1⟩

end Go.Proofs.YtdojhoegildiaaaGreat

namespace Go.PL
open Go.RL
section
variable {n0 n1 n2 n3 n4 n5 n6 n7 n8 n9 : Bool} {l0 l1 l2 l3 l4 l5 l6 l7 l8 l9 : List Nat} {a b c d e : Rat} {sz bs : Nat} {ag : Bool} {zz : Option (List PC)} {t : TypeId} {k : IntKind}
theorem idx_r0 : indexA ⟨sz, bs, ag, zz, .slice t⟩ 4 (some (.c (.sl 5 [.bool n0, lC l0, .bool n1, lC l1, .bool n2, lC l2, .bool n3, lC l3, .bool n4, lC l4, .bool n5, lC l5, .bool n6, lC l6, .bool n7, lC l7, .bool n8, lC l8, .bool n9, lC l9]))) (some (.c (.int k ((0 : Nat) : Int)))) = some (.iptr [.bool n0, lC l0, .bool n1, lC l1]) := rfl
theorem idx_r1 : indexA ⟨sz, bs, ag, zz, .slice t⟩ 4 (some (.c (.sl 5 [.bool n0, lC l0, .bool n1, lC l1, .bool n2, lC l2, .bool n3, lC l3, .bool n4, lC l4, .bool n5, lC l5, .bool n6, lC l6, .bool n7, lC l7, .bool n8, lC l8, .bool n9, lC l9]))) (some (.c (.int k ((1 : Nat) : Int)))) = some (.iptr [.bool n2, lC l2, .bool n3, lC l3]) := rfl
theorem idx_r2 : indexA ⟨sz, bs, ag, zz, .slice t⟩ 4 (some (.c (.sl 5 [.bool n0, lC l0, .bool n1, lC l1, .bool n2, lC l2, .bool n3, lC l3, .bool n4, lC l4, .bool n5, lC l5, .bool n6, lC l6, .bool n7, lC l7, .bool n8, lC l8, .bool n9, lC l9]))) (some (.c (.int k ((2 : Nat) : Int)))) = some (.iptr [.bool n4, lC l4, .bool n5, lC l5]) := rfl
theorem idx_r3 : indexA ⟨sz, bs, ag, zz, .slice t⟩ 4 (some (.c (.sl 5 [.bool n0, lC l0, .bool n1, lC l1, .bool n2, lC l2, .bool n3, lC l3, .bool n4, lC l4, .bool n5, lC l5, .bool n6, lC l6, .bool n7, lC l7, .bool n8, lC l8, .bool n9, lC l9]))) (some (.c (.int k ((3 : Nat) : Int)))) = some (.iptr [.bool n6, lC l6, .bool n7, lC l7]) := rfl
theorem idx_r4 : indexA ⟨sz, bs, ag, zz, .slice t⟩ 4 (some (.c (.sl 5 [.bool n0, lC l0, .bool n1, lC l1, .bool n2, lC l2, .bool n3, lC l3, .bool n4, lC l4, .bool n5, lC l5, .bool n6, lC l6, .bool n7, lC l7, .bool n8, lC l8, .bool n9, lC l9]))) (some (.c (.int k ((4 : Nat) : Int)))) = some (.iptr [.bool n8, lC l8, .bool n9, lC l9]) := rfl
theorem idx_q0 : indexA ⟨sz, bs, ag, zz, .slice t⟩ 4 (some (.c (.sl 5 (ratC a ++ (ratC b ++ (ratC d ++ (ratC e ++ ratC c))))))) (some (.c (.int k ((0 : Nat) : Int)))) = some (.iptr (ratC a)) := rfl
theorem idx_q1 : indexA ⟨sz, bs, ag, zz, .slice t⟩ 4 (some (.c (.sl 5 (ratC a ++ (ratC b ++ (ratC d ++ (ratC e ++ ratC c))))))) (some (.c (.int k ((1 : Nat) : Int)))) = some (.iptr (ratC b)) := rfl
theorem idx_q2 : indexA ⟨sz, bs, ag, zz, .slice t⟩ 4 (some (.c (.sl 5 (ratC a ++ (ratC b ++ (ratC d ++ (ratC e ++ ratC c))))))) (some (.c (.int k ((2 : Nat) : Int)))) = some (.iptr (ratC d)) := rfl
theorem idx_q3 : indexA ⟨sz, bs, ag, zz, .slice t⟩ 4 (some (.c (.sl 5 (ratC a ++ (ratC b ++ (ratC d ++ (ratC e ++ ratC c))))))) (some (.c (.int k ((3 : Nat) : Int)))) = some (.iptr (ratC e)) := rfl
theorem idx_q4 : indexA ⟨sz, bs, ag, zz, .slice t⟩ 4 (some (.c (.sl 5 (ratC a ++ (ratC b ++ (ratC d ++ (ratC e ++ ratC c))))))) (some (.c (.int k ((4 : Nat) : Int)))) = some (.iptr (ratC c)) := rfl
end
/-- A property of the five parts. -/
def five_at (p0 p1 p2 p3 p4 : Prop) : Nat → Prop
  | 0 => p0
  | 1 => p1
  | 2 => p2
  | 3 => p3
  | _ => p4
theorem five_step {p : Nat → Prop} {u : Nat} (h : ∀ i, i < u → p i) (hu : p u) : ∀ i, i < u + 1 → p i := fun i hi => by
  rcases Nat.lt_or_eq_of_le (show i ≤ u by omega) with q | q
  · exact h i q
  · rw [q]; exact hu
theorem five_all {p0 p1 p2 p3 p4 : Prop} (h : ∀ i, i < 5 → five_at p0 p1 p2 p3 p4 i) : p0 ∧ p1 ∧ p2 ∧ p3 ∧ p4 := ⟨h 0 (by omega), h 1 (by omega), h 2 (by omega), h 3 (by omega), h 4 (by omega)⟩
theorem ten_cases {u : Nat} (h : u < 5) (b0 b1 b2 b3 b4 : Bool) : ((u = 0 ∧ b0 = true) ∨ (u = 0 ∧ b0 = false)) ∨ ((u = 1 ∧ b1 = true) ∨ (u = 1 ∧ b1 = false)) ∨ ((u = 2 ∧ b2 = true) ∨ (u = 2 ∧ b2 = false)) ∨ ((u = 3 ∧ b3 = true) ∨ (u = 3 ∧ b3 = false)) ∨ ((u = 4 ∧ b4 = true) ∨ (u = 4 ∧ b4 = false)) := by
  have two : ∀ b : Bool, b = true ∨ b = false := fun b => by cases b <;> simp
  have : u = 0 ∨ u = 1 ∨ u = 2 ∨ u = 3 ∨ u = 4 := by omega
  rcases this with q | q | q | q | q
  · exact .inl ((two b0).imp (⟨q, ·⟩) (⟨q, ·⟩))
  · exact .inr (.inl ((two b1).imp (⟨q, ·⟩) (⟨q, ·⟩)))
  · exact .inr (.inr (.inl ((two b2).imp (⟨q, ·⟩) (⟨q, ·⟩))))
  · exact .inr (.inr (.inr (.inl ((two b3).imp (⟨q, ·⟩) (⟨q, ·⟩)))))
  · exact .inr (.inr (.inr (.inr ((two b4).imp (⟨q, ·⟩) (⟨q, ·⟩)))))
theorem five_cases {u : Nat} (h : u < 5) : u = 0 ∨ u = 1 ∨ u = 2 ∨ u = 3 ∨ u = 4 := by omega
theorem fifteen {u : Nat} (h : u < 5) (m0 m1 m2 m3 m4 m5 m6 m7 m8 m9 : Nat) :
    ((u = 0 ∧ 3 < m0) ∨ (u = 0 ∧ ¬ 3 < m0 ∧ 3 < m1) ∨ (u = 0 ∧ ¬ 3 < m0 ∧ ¬ 3 < m1)) ∨ ((u = 1 ∧ 3 < m2) ∨ (u = 1 ∧ ¬ 3 < m2 ∧ 3 < m3) ∨ (u = 1 ∧ ¬ 3 < m2 ∧ ¬ 3 < m3)) ∨ ((u = 2 ∧ 3 < m4) ∨ (u = 2 ∧ ¬ 3 < m4 ∧ 3 < m5) ∨ (u = 2 ∧ ¬ 3 < m4 ∧ ¬ 3 < m5)) ∨
    ((u = 3 ∧ 3 < m6) ∨ (u = 3 ∧ ¬ 3 < m6 ∧ 3 < m7) ∨ (u = 3 ∧ ¬ 3 < m6 ∧ ¬ 3 < m7)) ∨ ((u = 4 ∧ 3 < m8) ∨ (u = 4 ∧ ¬ 3 < m8 ∧ 3 < m9) ∨ (u = 4 ∧ ¬ 3 < m8 ∧ ¬ 3 < m9)) := by
  have tri : ∀ x y : Nat, 3 < x ∨ (¬ 3 < x ∧ 3 < y) ∨ (¬ 3 < x ∧ ¬ 3 < y) := fun x y => by omega
  have this : u = 0 ∨ u = 1 ∨ u = 2 ∨ u = 3 ∨ u = 4 := by omega
  rcases this with q | q | q | q | q
  · exact .inl ((tri m0 m1).imp (⟨q, ·⟩) (·.imp (⟨q, ·⟩) (⟨q, ·⟩)))
  · exact .inr (.inl ((tri m2 m3).imp (⟨q, ·⟩) (·.imp (⟨q, ·⟩) (⟨q, ·⟩))))
  · exact .inr (.inr (.inl ((tri m4 m5).imp (⟨q, ·⟩) (·.imp (⟨q, ·⟩) (⟨q, ·⟩)))))
  · exact .inr (.inr (.inr (.inl ((tri m6 m7).imp (⟨q, ·⟩) (·.imp (⟨q, ·⟩) (⟨q, ·⟩))))))
  · exact .inr (.inr (.inr (.inr ((tri m8 m9).imp (⟨q, ·⟩) (·.imp (⟨q, ·⟩) (⟨q, ·⟩))))))
end Go.PL

set_option linter.unusedSimpArgs false
set_option linter.unusedVariables false
namespace Go.PL
open Go.RL
theorem flat_drop {s : Nat} {E : List (List PC)} (hE : ∀ x ∈ E, x.length = s) : ∀ {u : Nat} {x : List PC}, E[u]? = some x → (E.flatten.drop (u * s)).take s = x := by
  induction E with
  | nil => intro u x h; simp at h
  | cons y E ih =>
    intro u x h
    have hy := hE y (List.mem_cons_self ..)
    cases u with
    | zero =>
      simp at h; subst h
      rw [Nat.zero_mul, List.drop_zero, List.flatten_cons, List.take_append_of_le_length (by omega), List.take_of_length_le (by omega)]
    | succ u =>
      rw [List.flatten_cons, show (u + 1) * s = y.length + u * s by rw [hy, Nat.add_mul, Nat.one_mul, Nat.add_comm], List.drop_append, List.drop_of_length_le (by omega), List.nil_append, show y.length + u * s - y.length = u * s by omega]
      exact ih (fun z hz => hE z (List.mem_cons_of_mem _ hz)) (by simpa using h)
theorem idx_flat {s : Nat} {E : List (List PC)} (hE : ∀ x ∈ E, x.length = s) {u n : Nat} {x : List PC} (h : E[u]? = some x) (hn : n = E.length) {sz bs ag zz e k} :
    indexA ⟨sz, bs, ag, zz, .slice e⟩ s (some (.c (.sl n E.flatten))) (some (.c (.int k (u : Int)))) = some (.iptr x) := by
  have hu : u < n := by rw [hn]; exact (List.getElem?_eq_some_iff.1 h).1
  show (if (0 : Int) ≤ (u : Int) ∧ (u : Int) < ((n : Nat) : Int) then some (PC.iptr ((E.flatten.drop ((u : Int).toNat * s)).take s)) else none) = _
  rw [if_pos (by omega), Int.toNat_natCast, flat_drop hE h]
/-- A fraction, in any form. -/
structure RR where
  n1 : Bool
  l1 : List Nat
  n2 : Bool
  l2 : List Nat
def RR.c (r : RR) : List PC := [.bool r.n1, lC r.l1, .bool r.n2, lC r.l2]
def RR.sml (k : Nat) (r : RR) : Bool := smlR k r.n1 r.l1 r.n2 r.l2
def RR.of (q : Rat) : RR := ⟨decide (q.num < 0), limbs q.num.natAbs, decide ((q.den : Int) < 0), limbs ((q.den : Int)).natAbs⟩
def flatR (L : List RR) : List PC := (L.map RR.c).flatten
theorem idxR {L : List RR} {u : Nat} {r : RR} (h : L[u]? = some r) {sz bs ag zz e k} :
    indexA ⟨sz, bs, ag, zz, .slice e⟩ 4 (some (.c (.sl L.length (flatR L)))) (some (.c (.int k (u : Int)))) = some (.iptr [.bool r.n1, lC r.l1, .bool r.n2, lC r.l2]) := by
  refine idx_flat (E := L.map RR.c) (fun x hx => ?_) (by rw [List.getElem?_map, h]; rfl) (by simp)
  obtain ⟨r, _, rfl⟩ := List.mem_map.1 hx
  rfl
theorem take_all {L : List RR} {u : Nat} {r : RR} {p : RR → Bool} (h : L[u]? = some r) (h' : (L.take u).all p = true) (hr : p r = true) : (L.take (u + 1)).all p = true := by
  rw [List.take_add_one, h, List.all_append, h']; simpa using hr
theorem all_no {L : List RR} {u : Nat} {r : RR} {p : RR → Bool} (h : L[u]? = some r) (hr : p r = false) : L.all p = false := by
  rw [List.all_eq_false]
  exact ⟨r, List.mem_of_getElem? h, by rw [hr]; simp⟩
theorem flatR_ne {L : List RR} {u : Nat} {r : RR} (h : L[u]? = some r) : (flatR L = []) = False := by
  cases L with
  | nil => simp at h
  | cons a L => simp [flatR, RR.c]
theorem flatR_im (L : List RR) : (flatR L).all PC.im = true := by
  induction L with
  | nil => rfl
  | cons a L ih => simp only [flatR, List.map_cons, List.flatten_cons, List.all_append] at ih ⊢; rw [ih]; rfl
theorem flatR_nm (L : List RR) : (flatR L).map PC.norm = flatR L := by
  induction L with
  | nil => rfl
  | cons a L ih => simp only [flatR, List.map_cons, List.flatten_cons, List.map_append] at ih ⊢; rw [ih]; rfl
theorem few_cases {u : Nat} {L : List RR} (h : u < L.length) : ∃ r, L[u]? = some r ∧ ((2 < r.l1.length) ∨ (r.l1.length ≤ 2 ∧ 2 < r.l2.length) ∨ (r.l1.length ≤ 2 ∧ r.l2.length ≤ 2 ∧ vldR r.n1 r.l1 r.n2 r.l2 = false) ∨ (r.l1.length ≤ 2 ∧ r.l2.length ≤ 2 ∧ vldR r.n1 r.l1 r.n2 r.l2 = true)) := by
  refine ⟨L[u], List.getElem?_eq_getElem h, ?_⟩
  generalize L[u] = r
  have h1 := Nat.lt_or_ge 2 r.l1.length
  have h2 := Nat.lt_or_ge 2 r.l2.length
  rcases h1 with h1 | h1
  · exact .inl h1
  rcases h2 with h2 | h2
  · exact .inr (.inl ⟨h1, h2⟩)
  rcases h3 : vldR r.n1 r.l1 r.n2 r.l2 with _ | _
  · exact .inr (.inr (.inl ⟨h1, h2, rfl⟩))
  · exact .inr (.inr (.inr ⟨h1, h2, rfl⟩))
theorem sml_1 {k : Nat} {r : RR} (h : k < r.l1.length) : r.sml k = false := by simp [RR.sml, smlR]; omega
theorem sml_2 {k : Nat} {r : RR} (h : k < r.l2.length) : r.sml k = false := by simp [RR.sml, smlR]; omega
theorem sml_3 {k : Nat} {r : RR} (h : vldR r.n1 r.l1 r.n2 r.l2 = false) : r.sml k = false := by simp [RR.sml, smlR, h]
theorem sml_4 {k : Nat} {r : RR} (h1 : r.l1.length ≤ k) (h2 : r.l2.length ≤ k) (h : vldR r.n1 r.l1 r.n2 r.l2 = true) : r.sml k = true := by simp [RR.sml, smlR, h, h1, h2]
theorem sml_true {k : Nat} {r : RR} (h : r.sml k = true) : ∃ q : Rat, SzR q k ∧ r = RR.of q := by
  obtain ⟨q, h1, h2, h3, h4, h5⟩ := smlR_true h
  refine ⟨q, h1, ?_⟩
  cases r; subst h2; subst h3; subst h4; subst h5; rfl
theorem RR.of_sml (q : Rat) {k : Nat} [SzR q k] : (RR.of q).sml k = true := smlR_rat q
theorem RR.of_c (q : Rat) : (RR.of q).c = ratC q := rfl
theorem vld3_rdc {b c : Rat} (h : vld3 b c = true) : Rdc b c ∧ (b = 0 → c = 0) := by
  unfold vld3 at h
  split at h
  · rename_i q
    simp only [Bool.and_eq_true, decide_eq_true_eq] at h
    exact ⟨⟨by rw [h.2]; exact Rat.le_refl, .inl h.1⟩, fun _ => h.2⟩
  · rename_i q
    simp only [Bool.and_eq_true, decide_eq_true_eq, Bool.not_eq_true'] at h
    exact ⟨⟨Rat.le_of_lt h.1, .inr h.2⟩, fun k => absurd (.inl k) q⟩
end Go.PL

set_option linter.unusedSimpArgs false
set_option linter.unusedVariables false
set_option maxRecDepth 20000
namespace Go.Proofs.YtdojhoegildiaaaGreat
open Go Go.PL Go.RL
set_option maxHeartbeats 4000000 in
theorem c_Few (L : List RR) (hL : L.length ≤ 1000) :
    Ret Tryz.prog 11 [.c (.sl L.length (flatR L))] (.e (.c (.bool (L.all (RR.sml 2))))) := by
  refine ret_of_body (md := {}) Tryz.func11 (by kernel_rfl) rfl ?_
  simp only [Tryz.f11, List.map_cons, List.map_nil, List.length_cons, List.length_nil, Nat.zero_add, Nat.reduceAdd, Nat.reduceSub, List.reduceReplicate, List.cons_append, List.nil_append]
  refine pwx_sr 0 [] (by rfl) (fun K1 hK1 => ?_)
  simp (disch := omega) only [go_sem, flatR_im, flatR_nm]
  refine hK1 _ ?_
  clear hK1 K1
  refine pwp_seq ?_
  refine pwx_sr 0 [] (by rfl) (fun K2 hK2 => ?_)
  simp (disch := omega) only [go_sem, flatR_im, flatR_nm]
  refine hK2 _ ?_
  clear hK2 K2
  refine pwp_block ?_
  refine pwp_loopF (true :: false :: true :: true :: false :: false :: false :: false :: false :: false :: false :: false :: false :: false :: false :: false :: false :: false :: false :: false :: false :: false :: false :: false :: false :: false :: false :: false :: false :: false :: false :: false :: false :: false :: false :: false :: []) 0 (fun M s => ∃ u : Nat, (u ≤ L.length) ∧ ((L.take u).all (RR.sml 2) = true) ∧ L.length - u = M ∧ s = { slots := .e (.c (.sl L.length (flatR L))) :: .j :: .e (.c (.bool false)) :: .e (.c (.int .i64 (u : Int))) :: .j :: .j :: .j :: .j :: .j :: .j :: .j :: .j :: .j :: .j :: .j :: .j :: .j :: .j :: .j :: .j :: .j :: .j :: .j :: .j :: .j :: .j :: .j :: .j :: .j :: .j :: .j :: .j :: .j :: .j :: .j :: .j :: [], st := [] }) (n := L.length) rfl ?_ ?_ ?_
  · refine ⟨0, ?_, ?_, rfl, ?_⟩
    · omega
    · rfl
    · first | rfl | (simp only [St.cut, keep, if_true, if_false, Bool.false_eq_true, List.take_succ_cons, List.take_zero, List.take_nil]; try simp)
  · refine ⟨rfl, ?_, ?_⟩ <;> first | rfl | (simp [keep, PV.lt, PE.lt, PC.lt, Box.lt, ↓lC_lt]; done) | simp [keep, PV.lt, PE.lt, PC.lt, Box.lt, ↓lC_lt, ↓intC_lt, ↓ratC_lt, ↓u32s_lt]
  · rintro _ _ ⟨u, hu, ha, rfl, rfl⟩
    refine pwp_seq ?_
    refine pwx_sr 0 [] (by rfl) (fun K3 hK3 => ?_)
    simp (disch := omega) only [go_sem, flatR_im, flatR_nm]
    refine hK3 _ ?_
    clear hK3 K3
    refine pwp_cond (b := _) (by rfl) (fun hb0 => ?_) (fun hb0 => ?_)
    · replace hb0 := of_decide_eq_true hb0
      have hlt : u < L.length := by omega
      refine pwp_skip ?_
      refine n_then ?_
      refine pwp_seq ?_
      refine pwp_block ?_
      obtain ⟨r, hr, h1 | ⟨h1, h2⟩ | ⟨h1, h2, h3⟩ | ⟨h1, h2, h3⟩⟩ := few_cases hlt
      · have hne := flatR_ne hr
        have hix := @idxR L u r hr
        refine pwx_sr 0 [some 10, some 11, some 12, some 13, some 14, some 15, some 16, some 17, some 18, some 19, some 20, some 21, some 22, some 23, some 24, some 25, some 26, some 27, some 28, some 29, some 30, some 31, some 32, some 33, some 34, some 35] (by rfl) (fun K4 hK4 => ?_)
        refine rgnX_take 24 (fun K5 hK5 => ?_)
        simp (disch := omega) only [go_sem, flatR_im, flatR_nm, hix, hne, ilt_T]
        first | refine ⟨_, c_swarfref02_Valid _ _ _ _ (by omega) (by omega), ?_⟩ | skip
        refine hK5 _ ?_
        simp (disch := omega) only [go_sem, flatR_im, flatR_nm, hix, hne, ilt_T]
        refine hK4 _ ?_
        clear hK5 K5 hK4 K4
        refine pwp_cond (b := true) (by rfl) (fun _ => ?_) (fun h => nomatch h)
        refine pwx_sr 0 [] (by rfl) (fun K6 hK6 => ?_)
        simp (disch := omega) only [go_sem, flatR_im, flatR_nm]
        refine hK6 _ ?_
        clear hK6 K6
        refine pwp_ret ?_
        refine r_block ?_
        refine r_then ?_
        refine r_then ?_
        refine r_block ?_
        refine r_then ?_
        refine ⟨Or.inr rfl, ?_⟩
        simp (disch := omega) only [go_sem, flatR_im, flatR_nm]
        exact (all_no hr (sml_1 h1))
      · have hne := flatR_ne hr
        have hix := @idxR L u r hr
        refine pwx_sr 0 [some 10, some 11, some 12, some 13, some 14, some 15, some 16, some 17, some 18, some 19, some 20, some 21, some 22, some 23, some 24, some 25, some 26, some 27, some 28, some 29, some 30, some 31, some 32, some 33, some 34, some 35] (by rfl) (fun K7 hK7 => ?_)
        refine rgnX_take 24 (fun K8 hK8 => ?_)
        simp (disch := omega) only [go_sem, flatR_im, flatR_nm, hix, hne, ilt_T, ilt_F]
        first | refine ⟨_, c_swarfref02_Valid _ _ _ _ (by omega) (by omega), ?_⟩ | skip
        refine hK8 _ ?_
        simp (disch := omega) only [go_sem, flatR_im, flatR_nm, hix, hne, ilt_T, ilt_F]
        refine hK7 _ ?_
        clear hK8 K8 hK7 K7
        refine pwp_cond (b := true) (by rfl) (fun _ => ?_) (fun h => nomatch h)
        refine pwx_sr 0 [] (by rfl) (fun K9 hK9 => ?_)
        simp (disch := omega) only [go_sem, flatR_im, flatR_nm]
        refine hK9 _ ?_
        clear hK9 K9
        refine pwp_ret ?_
        refine r_block ?_
        refine r_then ?_
        refine r_then ?_
        refine r_block ?_
        refine r_then ?_
        refine ⟨Or.inr rfl, ?_⟩
        simp (disch := omega) only [go_sem, flatR_im, flatR_nm]
        exact (all_no hr (sml_2 h2))
      · have hne := flatR_ne hr
        have hix := @idxR L u r hr
        refine pwx_sr 0 [some 10, some 11, some 12, some 13, some 14, some 15, some 16, some 17, some 18, some 19, some 20, some 21, some 22, some 23, some 24, some 25, some 26, some 27, some 28, some 29, some 30, some 31, some 32, some 33, some 34, some 35] (by rfl) (fun K10 hK10 => ?_)
        refine rgnX_take 24 (fun K11 hK11 => ?_)
        simp (disch := omega) only [go_sem, flatR_im, flatR_nm, hix, hne, ilt_F, h3]
        first | refine ⟨_, c_swarfref02_Valid _ _ _ _ (by omega) (by omega), ?_⟩ | skip
        refine hK11 _ ?_
        simp (disch := omega) only [go_sem, flatR_im, flatR_nm, hix, hne, ilt_F, h3]
        refine hK10 _ ?_
        clear hK11 K11 hK10 K10
        refine pwp_cond (b := true) (by rfl) (fun _ => ?_) (fun h => nomatch h)
        refine pwx_sr 0 [] (by rfl) (fun K12 hK12 => ?_)
        simp (disch := omega) only [go_sem, flatR_im, flatR_nm]
        refine hK12 _ ?_
        clear hK12 K12
        refine pwp_ret ?_
        refine r_block ?_
        refine r_then ?_
        refine r_then ?_
        refine r_block ?_
        refine r_then ?_
        refine ⟨Or.inr rfl, ?_⟩
        simp (disch := omega) only [go_sem, flatR_im, flatR_nm]
        exact (all_no hr (sml_3 h3))
      · have hne := flatR_ne hr
        have hix := @idxR L u r hr
        refine pwx_sr 0 [some 10, some 11, some 12, some 13, some 14, some 15, some 16, some 17, some 18, some 19, some 20, some 21, some 22, some 23, some 24, some 25, some 26, some 27, some 28, some 29, some 30, some 31, some 32, some 33, some 34, some 35] (by rfl) (fun K13 hK13 => ?_)
        refine rgnX_take 24 (fun K14 hK14 => ?_)
        simp (disch := omega) only [go_sem, flatR_im, flatR_nm, hix, hne, ilt_F, h3]
        first | refine ⟨_, c_swarfref02_Valid _ _ _ _ (by omega) (by omega), ?_⟩ | skip
        refine hK14 _ ?_
        simp (disch := omega) only [go_sem, flatR_im, flatR_nm, hix, hne, ilt_F, h3]
        refine hK13 _ ?_
        clear hK14 K14 hK13 K13
        refine pwp_cond (b := false) (by rfl) (fun h => nomatch h) (fun _ => ?_)
        refine pwp_skip ?_
        refine n_block ?_
        refine n_then ?_
        refine pwx_region 0 [] (by rfl) (fun K15 hK15 => ?_)
        simp (disch := omega) only [go_sem, flatR_im, flatR_nm]
        refine hK15 _ ?_
        clear hK15 K15
        refine n_then ?_
        refine ⟨_, ?hdec, ⟨u + 1, ?hf0, ?hf1, rfl, ?heq⟩, ?hok⟩
        case heq => first | rfl | (simp only [St.cut, keep, if_true, if_false, Bool.false_eq_true, List.take_succ_cons, List.take_zero, List.take_nil]; try simp)
        case hf0 => omega
        case hf1 => exact take_all hr ha (sml_4 h1 h2 h3)
        case hdec => omega
        case hok => refine ⟨rfl, ?_, ?_⟩ <;> first | rfl | (simp [keep, PV.lt, PE.lt, PC.lt, Box.lt, ↓lC_lt]; done) | simp [keep, PV.lt, PE.lt, PC.lt, Box.lt, ↓lC_lt, ↓intC_lt, ↓ratC_lt, ↓u32s_lt]
    · replace hb0 := of_decide_eq_false hb0
      obtain rfl : u = L.length := by omega
      refine pwp_exit ?_
      refine e_then ?_
      refine e_then ?_
      refine e_here ?_
      refine n_then ?_
      refine pwx_sr 0 [] (by rfl) (fun K16 hK16 => ?_)
      simp (disch := omega) only [go_sem, flatR_im, flatR_nm]
      refine hK16 _ ?_
      clear hK16 K16
      refine pwp_ret ?_
      refine ⟨Or.inr rfl, ?_⟩
      simp (disch := omega) only [go_sem, flatR_im, flatR_nm]
      rw [List.take_length] at ha; exact ha
theorem c_Few1_f (n0 n1 : Bool) (l0 l1 : List Nat) (h : [RR.mk n0 l0 n1 l1].all (RR.sml 2) = false) : Ret Tryz.prog 11 [.c (.sl 1 [.bool n0, lC l0, .bool n1, lC l1])] (.e (.c (.bool false))) := by
  have q := c_Few [RR.mk n0 l0 n1 l1] (by simp)
  rw [h] at q
  exact q
theorem c_Few1_t (q0 : Rat) [SzR q0 2] : Ret Tryz.prog 11 [.c (.sl 1 (ratC q0))] (.e (.c (.bool true))) := by
  have q := c_Few [RR.of q0] (by simp)
  rw [show [RR.of q0].all (RR.sml 2) = true by simp [RR.of_sml]] at q
  exact q
theorem few1_or (n0 n1 : Bool) (l0 l1 : List Nat) : Ret Tryz.prog 11 [.c (.sl 1 [.bool n0, lC l0, .bool n1, lC l1])] (.e (.c (.bool false))) ∨ ∃ q0 : Rat, SzR q0 2 ∧ ([.bool n0, lC l0, .bool n1, lC l1] : List PC) = ratC q0 ∧ Ret Tryz.prog 11 [.c (.sl 1 (ratC q0))] (.e (.c (.bool true))) := by
  rcases h : [RR.mk n0 l0 n1 l1].all (RR.sml 2) with _ | _
  · exact .inl (c_Few1_f n0 n1 l0 l1 h)
  · simp only [List.all_cons, List.all_nil, Bool.and_true, Bool.and_eq_true] at h
    have h0 := h
    obtain ⟨q0, s0, e0⟩ := sml_true h0; cases e0
    exact .inr ⟨q0, s0, rfl, c_Few1_t _⟩
theorem c_Few6_f (n0 n1 n2 n3 n4 n5 n6 n7 n8 n9 n10 n11 : Bool) (l0 l1 l2 l3 l4 l5 l6 l7 l8 l9 l10 l11 : List Nat) (h : [RR.mk n0 l0 n1 l1, RR.mk n2 l2 n3 l3, RR.mk n4 l4 n5 l5, RR.mk n6 l6 n7 l7, RR.mk n8 l8 n9 l9, RR.mk n10 l10 n11 l11].all (RR.sml 2) = false) : Ret Tryz.prog 11 [.c (.sl 6 [.bool n0, lC l0, .bool n1, lC l1, .bool n2, lC l2, .bool n3, lC l3, .bool n4, lC l4, .bool n5, lC l5, .bool n6, lC l6, .bool n7, lC l7, .bool n8, lC l8, .bool n9, lC l9, .bool n10, lC l10, .bool n11, lC l11])] (.e (.c (.bool false))) := by
  have q := c_Few [RR.mk n0 l0 n1 l1, RR.mk n2 l2 n3 l3, RR.mk n4 l4 n5 l5, RR.mk n6 l6 n7 l7, RR.mk n8 l8 n9 l9, RR.mk n10 l10 n11 l11] (by simp)
  rw [h] at q
  exact q
theorem c_Few6_t (q0 q1 q2 q3 q4 q5 : Rat) [SzR q0 2] [SzR q1 2] [SzR q2 2] [SzR q3 2] [SzR q4 2] [SzR q5 2] : Ret Tryz.prog 11 [.c (.sl 6 (ratC q0 ++ (ratC q1 ++ (ratC q2 ++ (ratC q3 ++ (ratC q4 ++ ratC q5))))))] (.e (.c (.bool true))) := by
  have q := c_Few [RR.of q0, RR.of q1, RR.of q2, RR.of q3, RR.of q4, RR.of q5] (by simp)
  rw [show [RR.of q0, RR.of q1, RR.of q2, RR.of q3, RR.of q4, RR.of q5].all (RR.sml 2) = true by simp [RR.of_sml]] at q
  exact q
theorem few6_or (n0 n1 n2 n3 n4 n5 n6 n7 n8 n9 n10 n11 : Bool) (l0 l1 l2 l3 l4 l5 l6 l7 l8 l9 l10 l11 : List Nat) : Ret Tryz.prog 11 [.c (.sl 6 [.bool n0, lC l0, .bool n1, lC l1, .bool n2, lC l2, .bool n3, lC l3, .bool n4, lC l4, .bool n5, lC l5, .bool n6, lC l6, .bool n7, lC l7, .bool n8, lC l8, .bool n9, lC l9, .bool n10, lC l10, .bool n11, lC l11])] (.e (.c (.bool false))) ∨ ∃ q0 q1 q2 q3 q4 q5 : Rat, SzR q0 2 ∧ SzR q1 2 ∧ SzR q2 2 ∧ SzR q3 2 ∧ SzR q4 2 ∧ SzR q5 2 ∧ ([.bool n0, lC l0, .bool n1, lC l1, .bool n2, lC l2, .bool n3, lC l3, .bool n4, lC l4, .bool n5, lC l5, .bool n6, lC l6, .bool n7, lC l7, .bool n8, lC l8, .bool n9, lC l9, .bool n10, lC l10, .bool n11, lC l11] : List PC) = ratC q0 ++ (ratC q1 ++ (ratC q2 ++ (ratC q3 ++ (ratC q4 ++ ratC q5)))) ∧ Ret Tryz.prog 11 [.c (.sl 6 (ratC q0 ++ (ratC q1 ++ (ratC q2 ++ (ratC q3 ++ (ratC q4 ++ ratC q5))))))] (.e (.c (.bool true))) := by
  rcases h : [RR.mk n0 l0 n1 l1, RR.mk n2 l2 n3 l3, RR.mk n4 l4 n5 l5, RR.mk n6 l6 n7 l7, RR.mk n8 l8 n9 l9, RR.mk n10 l10 n11 l11].all (RR.sml 2) with _ | _
  · exact .inl (c_Few6_f n0 n1 n2 n3 n4 n5 n6 n7 n8 n9 n10 n11 l0 l1 l2 l3 l4 l5 l6 l7 l8 l9 l10 l11 h)
  · simp only [List.all_cons, List.all_nil, Bool.and_true, Bool.and_eq_true] at h
    obtain ⟨h0, h1, h2, h3, h4, h5⟩ := h
    obtain ⟨q0, s0, e0⟩ := sml_true h0; cases e0
    obtain ⟨q1, s1, e1⟩ := sml_true h1; cases e1
    obtain ⟨q2, s2, e2⟩ := sml_true h2; cases e2
    obtain ⟨q3, s3, e3⟩ := sml_true h3; cases e3
    obtain ⟨q4, s4, e4⟩ := sml_true h4; cases e4
    obtain ⟨q5, s5, e5⟩ := sml_true h5; cases e5
    exact .inr ⟨q0, q1, q2, q3, q4, q5, s0, s1, s2, s3, s4, s5, rfl, c_Few6_t _ _ _ _ _ _⟩
end Go.Proofs.YtdojhoegildiaaaGreat

set_option linter.unusedSimpArgs false
set_option linter.unusedVariables false
namespace Go.PL
open Go.RL
instance : SzR 4 1 := ⟨szi_lit (by decide), szi_lit (by decide)⟩
instance : SzR 25 1 := ⟨szi_lit (by decide), szi_lit (by decide)⟩
instance : SzR (-3) 1 := ⟨szi_lit (by decide), szi_lit (by decide)⟩
theorem nu_0 : ((0 : Int) : Rat) = 0 := rfl
theorem nu_1 : ((1 : Int) : Rat) = 1 := rfl
theorem nu_2 : ((2 : Int) : Rat) = 2 := rfl
theorem nu_3 : ((3 : Int) : Rat) = 3 := rfl
theorem nu_4 : ((4 : Int) : Rat) = 4 := rfl
theorem nu_5 : ((5 : Int) : Rat) = 5 := rfl
theorem nu_8 : ((8 : Int) : Rat) = 8 := rfl
theorem nu_25 : ((25 : Int) : Rat) = 25 := rfl
theorem nu_m2 : ((-2 : Int) : Rat) = -2 := rfl
theorem nu_m3 : ((-3 : Int) : Rat) = -3 := rfl
theorem idx4 {d p q r x : Rat} {u : Nat} (h : [d, p, q, r][u]? = some x) {sz bs ag zz e k} :
    indexA ⟨sz, bs, ag, zz, .slice e⟩ 4 (some (.c (.sl 4 (ratC d ++ (ratC p ++ (ratC q ++ ratC r)))))) (some (.c (.int k (u : Int)))) = some (.iptr (ratC x)) := by
  refine idx_flat (s := 4) (E := [ratC d, ratC p, ratC q, ratC r]) (fun x hx => ?_) (by
    have e : [ratC d, ratC p, ratC q, ratC r] = [d, p, q, r].map ratC := rfl
    rw [e, List.getElem?_map, h]; rfl) rfl
  simp only [List.mem_cons, List.not_mem_nil, or_false] at hx
  rcases hx with rfl | rfl | rfl | rfl <;> simp
theorem get4 {d p q r : Rat} {u : Nat} (h : u < 4) : ∃ x, [d, p, q, r][u]? = some x := ⟨_, List.getElem?_eq_getElem (l := [d, p, q, r]) h⟩
theorem all4 {d p q r : Rat} (h : ∀ i, i < 4 → ∀ x, [d, p, q, r][i]? = some x → ¬ x < 0) : ¬ d < 0 ∧ ¬ p < 0 ∧ ¬ q < 0 ∧ ¬ r < 0 :=
  ⟨h 0 (by omega) d rfl, h 1 (by omega) p rfl, h 2 (by omega) q rfl, h 3 (by omega) r rfl⟩
theorem of4 {d p q r : Rat} (h : ¬ d < 0 ∧ ¬ p < 0 ∧ ¬ q < 0 ∧ ¬ r < 0) {u : Nat} {x : Rat} (hx : [d, p, q, r][u]? = some x) : ¬ x < 0 := by
  have := List.mem_of_getElem? hx
  simp only [List.mem_cons, List.not_mem_nil, or_false] at this
  rcases this with rfl | rfl | rfl | rfl
  · exact h.1
  · exact h.2.1
  · exact h.2.2.1
  · exact h.2.2.2
theorem step4 {d p q r x : Rat} {u : Nat} (h : ∀ i, i < u → ∀ x, [d, p, q, r][i]? = some x → ¬ x < 0) (hx : [d, p, q, r][u]? = some x) (hn : ¬ x < 0) : ∀ i, i < u + 1 → ∀ x, [d, p, q, r][i]? = some x → ¬ x < 0 := by
  intro i hi y hy
  rcases Nat.lt_or_eq_of_le (show i ≤ u by omega) with k | k
  · exact h i k y hy
  · subst k; rw [hx] at hy; cases hy; exact hn
theorem neg4 {d p q r : Rat} (h : ¬ (¬ d < 0 ∧ ¬ p < 0 ∧ ¬ q < 0 ∧ ¬ r < 0)) : d < 0 ∨ (¬ d < 0 ∧ p < 0) ∨ (¬ d < 0 ∧ ¬ p < 0 ∧ q < 0) ∨ (¬ d < 0 ∧ ¬ p < 0 ∧ ¬ q < 0 ∧ r < 0) := by
  by_cases h1 : d < 0
  · exact .inl h1
  by_cases h2 : p < 0
  · exact .inr (.inl ⟨h1, h2⟩)
  by_cases h3 : q < 0
  · exact .inr (.inr (.inl ⟨h1, h2, h3⟩))
  exact .inr (.inr (.inr ⟨h1, h2, h3, Classical.not_not.1 fun k => h ⟨h1, h2, h3, k⟩⟩))
theorem ex_rdc : ∀ c : Rat, (c = 2 ∨ c = 3) → Rdc 1 c ∧ ((1 : Rat) = 0 → c = 0) := by
  rintro c (rfl | rfl)
  · exact ⟨⟨by decide, .inr (by decide +kernel)⟩, fun h => absurd h (by decide)⟩
  · exact ⟨⟨by decide, .inr (by decide +kernel)⟩, fun h => absurd h (by decide)⟩
theorem ex_32 {x : Rat} (h : Simp (Btw 0 1 2 0 1 3) x) : x = Rat.divInt 3 2 := by
  have hb : Btw 0 1 2 0 1 3 (Rat.divInt 3 2) := by
    unfold Btw
    rw [← two_eq (by decide), ← two_eq (by decide)]
    exact ⟨by decide +kernel, by decide +kernel⟩
  refine Simp.uniq (fun u v w => Btw.conv) h ⟨hb, fun z hz => ?_, fun q => absurd q (by decide +kernel)⟩
  have h1 : (1 : Rat) < z := v2_le0 (a := 0) (b := 1) (c := 2) (by rw [← two_eq (by decide)]; decide +kernel) hz.1
  have h2 : z < 2 := v2_ge0 (a := 0) (b := 1) (c := 3) hz.2 (by rw [← two_eq (by decide)]; decide +kernel)
  have h3 : (Rat.divInt 3 2).den = 2 := by decide +kernel
  rw [h3]
  rcases Nat.lt_or_ge z.den 2 with k | k
  · exfalso
    have e := den1 (x := z) (by have := z.den_pos; omega)
    rw [e] at h1 h2
    have a1 : (1 : Int) < z.num := by rw [← nu_1] at h1; exact_mod_cast h1
    have a2 : z.num < (2 : Int) := by rw [← nu_2] at h2; exact_mod_cast h2
    omega
  · exact k
theorem ex_b : cmpR 0 1 2 0 1 3 < 0 := by decide +kernel
theorem ex_z1 : ¬ 0 ≤ cmpR (Rat.divInt (-5) 2) 0 0 0 1 2 := by decide +kernel
theorem ex_z2 : two (Rat.divInt (-5) 2 - 0) 0 0 < 0 := by decide +kernel
theorem ex_z3 : 0 < two (0 - 0) 1 2 := by decide +kernel
theorem ex_q1 : quad (-3) 1 1 0 2 3 = 1 := by decide +kernel
theorem ex_q2 : quad 5 0 0 (-2) 2 3 = 1 := by decide +kernel
theorem ex_q3 : quad (25 - 4 - 1 - 2 * 2) (-2 * 2) (-2 * 2) (-2) 4 1 = 0 := by decide +kernel
theorem ex_e : cmpR 0 1 8 0 2 2 = 0 := by decide +kernel
end Go.PL

set_option linter.unusedSimpArgs false
set_option linter.unusedVariables false
set_option maxRecDepth 20000
namespace Go.Proofs.YtdojhoegildiaaaGreat
open Go Go.PL Go.RL
set_option maxHeartbeats 4000000 in
theorem c_radical_Sum_t (d p q r : Rat) [SzR d 2] [SzR p 2] [SzR q 2] [SzR r 2] (h : ¬ d < 0 ∧ ¬ p < 0 ∧ ¬ q < 0 ∧ ¬ r < 0) :
    Ret Tryz.prog 21 [.a (ratC d), .a (ratC p), .a (ratC q), .a (ratC r)] (.t [.c (.int .i64 (quad (d - p - q - r * r) (-2 * r) (-2 * r) (-2) p q)), .c (.int .i64 0)]) := by
  refine ret_of_body (md := {}) Tryz.func21 (by kernel_rfl) rfl ?_
  simp only [Tryz.f21, List.map_cons, List.map_nil, List.length_cons, List.length_nil, Nat.zero_add, Nat.reduceAdd, Nat.reduceSub, List.reduceReplicate, List.cons_append, List.nil_append]
  refine pwx_sr 4 [] (by rfl) (fun K1 hK1 => ?_)
  simp (disch := omega) only [go_sem, nu_m2]
  refine hK1 _ ?_
  clear hK1 K1
  refine pwp_seq ?_
  refine pwx_sr 1 [] (by rfl) (fun K2 hK2 => ?_)
  simp (maxSteps := 3000000) (disch := omega) only [go_sem, nu_m2]
  refine hK2 _ ?_
  clear hK2 K2
  refine pwp_block ?_
  refine pwp_loopF (false :: false :: false :: false :: true :: true :: true :: true :: true :: true :: false :: false :: false :: false :: false :: false :: false :: false :: true :: true :: true :: false :: false :: false :: false :: false :: false :: false :: false :: false :: false :: false :: false :: false :: false :: false :: false :: false :: false :: false :: false :: false :: false :: false :: false :: false :: false :: false :: []) 4 (fun M s => ∃ u : Nat, (u ≤ 4) ∧ (∀ i, i < u → ∀ x, [d, p, q, r][i]? = some x → ¬ x < 0) ∧ 4 - u = M ∧ s = { slots := .j :: .j :: .j :: .j :: .e (.c (.ptr 0 0)) :: .e (.c (.ptr 1 0)) :: .e (.c (.ptr 2 0)) :: .e (.c (.ptr 3 0)) :: .e (.c (.int .i64 0)) :: .e (.c (.int .i64 0)) :: .j :: .j :: .j :: .j :: .j :: .j :: .j :: .j :: .e (.c (.sl 4 (ratC d ++ (ratC p ++ (ratC q ++ ratC r))))) :: .e (.c (.int .i64 ((4 : Nat) : Int))) :: .e (.c (.int .i64 (u : Int))) :: .j :: .j :: .j :: .j :: .j :: .j :: .j :: .j :: .j :: .j :: .j :: .j :: .j :: .j :: .j :: .j :: .j :: .j :: .j :: .j :: .j :: .j :: .j :: .j :: .j :: .j :: .j :: [], st := [.live (ratC d), .live (ratC p), .live (ratC q), .live (ratC r)] }) (n := 4) rfl ?_ ?_ ?_
  · refine ⟨0, ?_, ?_, rfl, ?_⟩
    · omega
    · intro i hi; omega
    · first | rfl | (simp only [St.cut, keep, if_true, if_false, Bool.false_eq_true, List.take_succ_cons, List.take_zero, List.take_nil]; try simp)
  · refine ⟨rfl, ?_, ?_⟩ <;> first | rfl | (simp [keep, PV.lt, PE.lt, PC.lt, Box.lt, ↓lC_lt]; done) | simp [keep, PV.lt, PE.lt, PC.lt, Box.lt, ↓lC_lt, ↓intC_lt, ↓ratC_lt, ↓u32s_lt]
  · rintro _ _ ⟨u, hu, hk, rfl, rfl⟩
    refine pwx_sr 0 [] (by rfl) (fun K3 hK3 => ?_)
    simp (disch := omega) only [go_sem, nu_m2]
    refine hK3 _ ?_
    clear hK3 K3
    refine pwp_seq ?_
    refine pwp_cond (b := _) (by rfl) (fun hb0 => ?_) (fun hb0 => ?_)
    · replace hb0 := of_decide_eq_true hb0
      obtain ⟨x, hx⟩ := get4 (d := d) (p := p) (q := q) (r := r) (show u < 4 by omega)
      have hix := @idx4 d p q r x u hx
      refine pwp_skip ?_
      refine n_then ?_
      refine pwp_seq ?_
      refine pwp_block ?_
      refine pwx_sr 1 [] (by rfl) (fun K4 hK4 => ?_)
      simp (disch := omega) only [go_sem, nu_m2, hix]
      refine hK4 _ ?_
      clear hK4 K4
      have hn := of4 h hx
      refine pwx_sr 0 [] (by rfl) (fun K5 hK5 => ?_)
      refine rgnX_take 2 (fun K6 hK6 => ?_)
      simp (disch := omega) only [go_sem, nu_m2, hn, decide_false]
      refine ⟨_, c_rational_Sign _, ?_⟩
      refine hK6 _ ?_
      simp (disch := omega) only [go_sem, nu_m2, hn, decide_false]
      refine hK5 _ ?_
      clear hK6 K6 hK5 K5
      refine pwp_cond (b := false) (by rfl) (fun h => nomatch h) (fun _ => ?_)
      refine pwp_skip ?_
      refine n_block ?_
      refine n_then ?_
      refine pwx_region 0 [] (by rfl) (fun K7 hK7 => ?_)
      simp (disch := omega) only [go_sem, nu_m2]
      refine hK7 _ ?_
      clear hK7 K7
      refine n_then ?_
      refine ⟨_, ?hdec, ⟨u + 1, ?hf0, ?hf1, rfl, ?heq⟩, ?hok⟩
      case heq => first | rfl | (simp only [St.cut, keep, if_true, if_false, Bool.false_eq_true, List.take_succ_cons, List.take_zero, List.take_nil]; try simp)
      case hf0 => omega
      case hf1 => exact step4 hk hx (by first | assumption | exact of4 h hx)
      case hdec => omega
      case hok => refine ⟨rfl, ?_, ?_⟩ <;> first | rfl | (simp [keep, PV.lt, PE.lt, PC.lt, Box.lt, ↓lC_lt]; done) | simp [keep, PV.lt, PE.lt, PC.lt, Box.lt, ↓lC_lt, ↓intC_lt, ↓ratC_lt, ↓u32s_lt]
    · replace hb0 := of_decide_eq_false hb0
      obtain rfl : u = 4 := by omega
      refine pwp_exit ?_
      refine e_then ?_
      refine e_then ?_
      refine e_here ?_
      refine n_then ?_
      refine pwx_sd Tryz.mixed 1 [] (by rfl) [] (by kernel_rfl) (by simp) (fun K8 hK8 => ?_)
      refine rgnX_take 3 (fun K9 hK9 => ?_)
      simp (disch := omega) only [go_sem, nu_m2]
      refine ⟨_, c_rational_Sub _ _ (by omega), ?_⟩
      refine hK9 _ ?_
      refine rgnX_take 2 (fun K10 hK10 => ?_)
      simp (disch := omega) only [go_sem, nu_m2]
      refine ⟨_, c_rational_Sub _ _ (by omega), ?_⟩
      refine hK10 _ ?_
      refine rgnX_take 3 (fun K11 hK11 => ?_)
      simp (disch := omega) only [go_sem, nu_m2]
      refine ⟨_, c_rational_Mul _ _ (by omega), ?_⟩
      refine hK11 _ ?_
      refine rgnX_take 1 (fun K12 hK12 => ?_)
      simp (disch := omega) only [go_sem, nu_m2]
      refine ⟨_, c_rational_Sub _ _ (by omega), ?_⟩
      refine hK12 _ ?_
      simp (disch := omega) only [go_sem, nu_m2]
      refine hK8 _ ?_
      clear hK12 K12 hK11 K11 hK10 K10 hK9 K9 hK8 K8
      refine pwx_sd Tryz.mixed 1 [] (by rfl) [] (by kernel_rfl) (by simp) (fun K13 hK13 => ?_)
      refine rgnX_take 1 (fun K14 hK14 => ?_)
      simp (disch := omega) only [go_sem, nu_m2]
      refine ⟨_, c_rational_FromInt64 _ (by omega) (by omega), ?_⟩
      refine hK14 _ ?_
      refine rgnX_take 2 (fun K15 hK15 => ?_)
      simp (disch := omega) only [go_sem, nu_m2]
      refine ⟨_, c_rational_Mul _ _ (by omega), ?_⟩
      refine hK15 _ ?_
      simp (disch := omega) only [go_sem, nu_m2]
      refine hK13 _ ?_
      clear hK15 K15 hK14 K14 hK13 K13
      refine pwx_sd Tryz.mixed 0 [] (by rfl) [] (by kernel_rfl) (by simp) (fun K16 hK16 => ?_)
      refine rgnX_take 4 (fun K17 hK17 => ?_)
      simp (disch := omega) only [go_sem, nu_m2]
      refine ⟨_, c_rational_FromInt64 _ (by omega) (by omega), ?_⟩
      refine hK17 _ ?_
      refine rgnX_take 4 (fun K18 hK18 => ?_)
      simp (disch := omega) only [go_sem, nu_m2]
      refine ⟨_, c_radical_Sign _ _ _ _ _ _ (by omega), ?_⟩
      refine hK18 _ ?_
      simp (disch := omega) only [go_sem, nu_m2]
      refine hK16 _ ?_
      clear hK18 K18 hK17 K17 hK16 K16
      refine pwp_ret ?_
      refine ⟨Or.inr rfl, ?_⟩
      simp (disch := omega) only [go_sem, nu_m2]
      all_goals first | exact ⟨rfl, rfl⟩ | rfl
set_option maxHeartbeats 4000000 in
theorem c_swarflaw05_root (x y : Int) (hx : -9223372036854775808 ≤ x) (hx' : x < 9223372036854775808) (hy : -9223372036854775808 ≤ y) (hy' : y < 9223372036854775808) :
    Ret Tryz.prog 35 [.c (.int .i64 x), .c (.int .i64 y)] (.e (.a (ratC (0) ++ (ratC ((x : Rat)) ++ ratC ((y : Rat)))))) := by
  refine ret_of_body (md := {}) Tryz.func35 (by kernel_rfl) rfl ?_
  simp only [Tryz.f35, List.map_cons, List.map_nil, List.length_cons, List.length_nil, Nat.zero_add, Nat.reduceAdd, Nat.reduceSub, List.reduceReplicate, List.cons_append, List.nil_append]
  refine pwx_sr 1 [] (by rfl) (fun K1 hK1 => ?_)
  simp (disch := omega) only [go_sem, nu_0]
  refine hK1 _ ?_
  clear hK1 K1
  refine pwx_sr 0 [] (by rfl) (fun K2 hK2 => ?_)
  refine rgnX_take 1 (fun K3 hK3 => ?_)
  simp (disch := omega) only [go_sem, nu_0]
  refine ⟨_, c_swarflaw05_num _ (by omega) (by omega), ?_⟩
  refine hK3 _ ?_
  refine rgnX_take 2 (fun K4 hK4 => ?_)
  simp (disch := omega) only [go_sem, nu_0]
  refine ⟨_, c_swarflaw05_num _ (by omega) (by omega), ?_⟩
  refine hK4 _ ?_
  refine rgnX_take 2 (fun K5 hK5 => ?_)
  simp (disch := omega) only [go_sem, nu_0]
  refine ⟨_, c_swarflaw05_num _ (by omega) (by omega), ?_⟩
  refine hK5 _ ?_
  simp (disch := omega) only [go_sem, nu_0]
  refine hK2 _ ?_
  clear hK5 K5 hK4 K4 hK3 K3 hK2 K2
  refine pwp_ret ?_
  refine ⟨Or.inr rfl, ?_⟩
  simp (disch := omega) only [go_sem, nu_0]
  all_goals rfl
theorem ex_btw : Ret Tryz.prog 23 [.a (ratC (0) ++ (ratC (1) ++ ratC (2))), .a (ratC (0) ++ (ratC (1) ++ ratC (3)))] (.t [.a (ratC (Rat.divInt 3 2)), .c (.int .i64 0)]) := by
  haveI : SzR (0 : Rat) 2 := (inferInstance : SzR (0 : Rat) 1).mono (by omega)
  haveI : SzR (1 : Rat) 2 := (inferInstance : SzR (1 : Rat) 1).mono (by omega)
  haveI : SzR (2 : Rat) 2 := (inferInstance : SzR (2 : Rat) 1).mono (by omega)
  haveI : SzR (3 : Rat) 2 := (inferInstance : SzR (3 : Rat) 1).mono (by omega)
  obtain ⟨r1, z1⟩ := ex_rdc 2 (.inl rfl)
  obtain ⟨r2, z2⟩ := ex_rdc 3 (.inr rfl)
  obtain ⟨x, _, hx, hp, _⟩ := betweens r1 r2 z1 z2 ex_b
  rw [ex_32 hx] at hp
  exact hp
theorem ex_zero : Ret Tryz.prog 23 [.a (ratC (Rat.divInt (-5) 2) ++ (ratC (0) ++ ratC (0))), .a (ratC (0) ++ (ratC (1) ++ ratC (2)))] (.t [.a (ratC 0), .c (.int .i64 0)]) := by
  haveI : SzR (0 : Rat) 2 := (inferInstance : SzR (0 : Rat) 1).mono (by omega)
  haveI : SzR (1 : Rat) 2 := (inferInstance : SzR (1 : Rat) 1).mono (by omega)
  haveI : SzR (2 : Rat) 2 := (inferInstance : SzR (2 : Rat) 1).mono (by omega)
  haveI : SzR (Rat.divInt (-5) 2) 2 := ⟨szi_lit (by decide +kernel), szi_lit (by decide +kernel)⟩
  exact c_Between_1 _ _ _ _ _ _ (by decide) (by decide) ex_z1 ex_z2 ex_z3
theorem ex_sum : Ret Tryz.prog 21 [.a (ratC 25), .a (ratC 4), .a (ratC 1), .a (ratC 2)] (.t [.c (.int .i64 0), .c (.int .i64 0)]) := by
  haveI : SzR (25 : Rat) 2 := (inferInstance : SzR (25 : Rat) 1).mono (by omega)
  haveI : SzR (4 : Rat) 2 := (inferInstance : SzR (4 : Rat) 1).mono (by omega)
  haveI : SzR (1 : Rat) 2 := (inferInstance : SzR (1 : Rat) 1).mono (by omega)
  haveI : SzR (2 : Rat) 2 := (inferInstance : SzR (2 : Rat) 1).mono (by omega)
  have h := c_radical_Sum_t 25 4 1 2 (by decide)
  rw [ex_q3] at h
  exact h
set_option maxHeartbeats 4000000 in
theorem c_swarflaw05_awake :
    Ret Tryz.prog 10 [] (.e (.c (.bool true))) := by
  refine ret_of_body (md := {}) Tryz.func10 (by kernel_rfl) rfl ?_
  simp only [Tryz.f10, List.map_cons, List.map_nil, List.length_cons, List.length_nil, Nat.zero_add, Nat.reduceAdd, Nat.reduceSub, List.reduceReplicate, List.cons_append, List.nil_append]
  haveI : SzR (Rat.divInt 3 2) 2 := ⟨szi_lit (by decide +kernel), szi_lit (by decide +kernel)⟩
  refine pwx_sr 0 [] (by rfl) (fun K1 hK1 => ?_)
  simp (disch := omega) only [go_sem, nu_0, nu_1, nu_2, nu_3, nu_4, nu_5, nu_8, nu_25, nu_m2, nu_m3, eq_self, ex_q1, ex_q2, ex_e]
  refine hK1 _ ?_
  clear hK1 K1
  refine pwx_sr 0 [] (by rfl) (fun K2 hK2 => ?_)
  refine rgnX_take 1 (fun K3 hK3 => ?_)
  simp (disch := omega) only [go_sem, nu_0, nu_1, nu_2, nu_3, nu_4, nu_5, nu_8, nu_25, nu_m2, nu_m3, eq_self, ex_q1, ex_q2, ex_e]
  refine ⟨_, c_swarflaw05_num _ (by omega) (by omega), ?_⟩
  refine hK3 _ ?_
  refine rgnX_take 1 (fun K4 hK4 => ?_)
  simp (disch := omega) only [go_sem, nu_0, nu_1, nu_2, nu_3, nu_4, nu_5, nu_8, nu_25, nu_m2, nu_m3, eq_self, ex_q1, ex_q2, ex_e]
  refine ⟨_, c_swarflaw05_num _ (by omega) (by omega), ?_⟩
  refine hK4 _ ?_
  refine rgnX_take 1 (fun K5 hK5 => ?_)
  simp (disch := omega) only [go_sem, nu_0, nu_1, nu_2, nu_3, nu_4, nu_5, nu_8, nu_25, nu_m2, nu_m3, eq_self, ex_q1, ex_q2, ex_e]
  refine ⟨_, c_swarflaw05_num _ (by omega) (by omega), ?_⟩
  refine hK5 _ ?_
  refine rgnX_take 1 (fun K6 hK6 => ?_)
  simp (disch := omega) only [go_sem, nu_0, nu_1, nu_2, nu_3, nu_4, nu_5, nu_8, nu_25, nu_m2, nu_m3, eq_self, ex_q1, ex_q2, ex_e]
  refine ⟨_, c_swarflaw05_num _ (by omega) (by omega), ?_⟩
  refine hK6 _ ?_
  refine rgnX_take 1 (fun K7 hK7 => ?_)
  simp (disch := omega) only [go_sem, nu_0, nu_1, nu_2, nu_3, nu_4, nu_5, nu_8, nu_25, nu_m2, nu_m3, eq_self, ex_q1, ex_q2, ex_e]
  refine ⟨_, ex_sum, ?_⟩
  refine hK7 _ ?_
  simp (disch := omega) only [go_sem, nu_0, nu_1, nu_2, nu_3, nu_4, nu_5, nu_8, nu_25, nu_m2, nu_m3, eq_self, ex_q1, ex_q2, ex_e]
  refine hK2 _ ?_
  clear hK7 K7 hK6 K6 hK5 K5 hK4 K4 hK3 K3 hK2 K2
  refine pwx_sr 1 [] (by rfl) (fun K8 hK8 => ?_)
  refine rgnX_take 1 (fun K9 hK9 => ?_)
  simp (disch := omega) only [go_sem, nu_0, nu_1, nu_2, nu_3, nu_4, nu_5, nu_8, nu_25, nu_m2, nu_m3, eq_self, ex_q1, ex_q2, ex_e]
  refine ⟨_, c_swarflaw05_root _ _ (by omega) (by omega) (by omega) (by omega), ?_⟩
  refine hK9 _ ?_
  refine rgnX_take 1 (fun K10 hK10 => ?_)
  simp (disch := omega) only [go_sem, nu_0, nu_1, nu_2, nu_3, nu_4, nu_5, nu_8, nu_25, nu_m2, nu_m3, eq_self, ex_q1, ex_q2, ex_e]
  refine ⟨_, c_swarflaw05_root _ _ (by omega) (by omega) (by omega) (by omega), ?_⟩
  refine hK10 _ ?_
  refine rgnX_take 1 (fun K11 hK11 => ?_)
  simp (disch := omega) only [go_sem, nu_0, nu_1, nu_2, nu_3, nu_4, nu_5, nu_8, nu_25, nu_m2, nu_m3, eq_self, ex_q1, ex_q2, ex_e]
  refine ⟨_, ex_btw, ?_⟩
  refine hK11 _ ?_
  simp (disch := omega) only [go_sem, nu_0, nu_1, nu_2, nu_3, nu_4, nu_5, nu_8, nu_25, nu_m2, nu_m3, eq_self, ex_q1, ex_q2, ex_e]
  refine hK8 _ ?_
  clear hK11 K11 hK10 K10 hK9 K9 hK8 K8
  refine pwx_sr 1 [] (by rfl) (fun K12 hK12 => ?_)
  refine rgnX_take 1 (fun K13 hK13 => ?_)
  simp (disch := omega) only [go_sem, nu_0, nu_1, nu_2, nu_3, nu_4, nu_5, nu_8, nu_25, nu_m2, nu_m3, eq_self, ex_q1, ex_q2, ex_e]
  refine ⟨_, c_swarfref02_Frac _ _ (by omega) (by omega) (by omega) (by omega) (by omega), ?_⟩
  refine hK13 _ ?_
  refine rgnX_take 1 (fun K14 hK14 => ?_)
  simp (disch := omega) only [go_sem, nu_0, nu_1, nu_2, nu_3, nu_4, nu_5, nu_8, nu_25, nu_m2, nu_m3, eq_self, ex_q1, ex_q2, ex_e]
  refine ⟨_, c_swarflaw05_num _ (by omega) (by omega), ?_⟩
  refine hK14 _ ?_
  refine rgnX_take 1 (fun K15 hK15 => ?_)
  simp (disch := omega) only [go_sem, nu_0, nu_1, nu_2, nu_3, nu_4, nu_5, nu_8, nu_25, nu_m2, nu_m3, eq_self, ex_q1, ex_q2, ex_e]
  refine ⟨_, c_swarflaw05_num _ (by omega) (by omega), ?_⟩
  refine hK15 _ ?_
  refine rgnX_take 2 (fun K16 hK16 => ?_)
  simp (disch := omega) only [go_sem, nu_0, nu_1, nu_2, nu_3, nu_4, nu_5, nu_8, nu_25, nu_m2, nu_m3, eq_self, ex_q1, ex_q2, ex_e]
  refine ⟨_, c_swarflaw05_root _ _ (by omega) (by omega) (by omega) (by omega), ?_⟩
  refine hK16 _ ?_
  refine rgnX_take 1 (fun K17 hK17 => ?_)
  simp (disch := omega) only [go_sem, nu_0, nu_1, nu_2, nu_3, nu_4, nu_5, nu_8, nu_25, nu_m2, nu_m3, eq_self, ex_q1, ex_q2, ex_e]
  refine ⟨_, ex_zero, ?_⟩
  refine hK17 _ ?_
  simp (disch := omega) only [go_sem, nu_0, nu_1, nu_2, nu_3, nu_4, nu_5, nu_8, nu_25, nu_m2, nu_m3, eq_self, ex_q1, ex_q2, ex_e]
  refine hK12 _ ?_
  clear hK17 K17 hK16 K16 hK15 K15 hK14 K14 hK13 K13 hK12 K12
  refine pwx_sd Tryz.mixed 0 [some 30, some 31, some 32, some 33, some 34, some 35, some 36, some 37, some 38, some 39, some 40, some 41, some 42, some 43, some 44, some 45, some 46, some 47, some 48, some 49, some 50, some 51, some 52, some 53, some 54, some 55, some 56, some 57, some 58, some 59, some 60, some 61, some 62, some 63, some 64, some 65, some 66, some 67, some 68, some 69, some 70, some 71, some 72, some 73, some 74, some 75, some 76, some 77, some 78, some 79, some 80, some 0] (by rfl) [] (by kernel_rfl) (by simp) (fun K18 hK18 => ?_)
  refine rgnX_take 1 (fun K19 hK19 => ?_)
  simp (disch := omega) only [go_sem, nu_0, nu_1, nu_2, nu_3, nu_4, nu_5, nu_8, nu_25, nu_m2, nu_m3, eq_self, ex_q1, ex_q2, ex_e]
  refine ⟨_, c_swarflaw05_num _ (by omega) (by omega), ?_⟩
  refine hK19 _ ?_
  refine rgnX_take 1 (fun K20 hK20 => ?_)
  simp (disch := omega) only [go_sem, nu_0, nu_1, nu_2, nu_3, nu_4, nu_5, nu_8, nu_25, nu_m2, nu_m3, eq_self, ex_q1, ex_q2, ex_e]
  refine ⟨_, c_swarflaw05_num _ (by omega) (by omega), ?_⟩
  refine hK20 _ ?_
  refine rgnX_take 1 (fun K21 hK21 => ?_)
  simp (disch := omega) only [go_sem, nu_0, nu_1, nu_2, nu_3, nu_4, nu_5, nu_8, nu_25, nu_m2, nu_m3, eq_self, ex_q1, ex_q2, ex_e]
  refine ⟨_, c_swarflaw05_num _ (by omega) (by omega), ?_⟩
  refine hK21 _ ?_
  refine rgnX_take 1 (fun K22 hK22 => ?_)
  simp (disch := omega) only [go_sem, nu_0, nu_1, nu_2, nu_3, nu_4, nu_5, nu_8, nu_25, nu_m2, nu_m3, eq_self, ex_q1, ex_q2, ex_e]
  refine ⟨_, c_swarflaw05_num _ (by omega) (by omega), ?_⟩
  refine hK22 _ ?_
  refine rgnX_take 1 (fun K23 hK23 => ?_)
  simp (disch := omega) only [go_sem, nu_0, nu_1, nu_2, nu_3, nu_4, nu_5, nu_8, nu_25, nu_m2, nu_m3, eq_self, ex_q1, ex_q2, ex_e]
  refine ⟨_, c_swarflaw05_num _ (by omega) (by omega), ?_⟩
  refine hK23 _ ?_
  refine rgnX_take 1 (fun K24 hK24 => ?_)
  simp (disch := omega) only [go_sem, nu_0, nu_1, nu_2, nu_3, nu_4, nu_5, nu_8, nu_25, nu_m2, nu_m3, eq_self, ex_q1, ex_q2, ex_e]
  refine ⟨_, c_swarflaw05_num _ (by omega) (by omega), ?_⟩
  refine hK24 _ ?_
  refine rgnX_take 2 (fun K25 hK25 => ?_)
  simp (disch := omega) only [go_sem, nu_0, nu_1, nu_2, nu_3, nu_4, nu_5, nu_8, nu_25, nu_m2, nu_m3, eq_self, ex_q1, ex_q2, ex_e]
  refine ⟨_, c_radical_Sign _ _ _ _ _ _ (by omega), ?_⟩
  refine hK25 _ ?_
  refine rgnX_take 3 (fun K26 hK26 => ?_)
  simp (disch := omega) only [go_sem, nu_0, nu_1, nu_2, nu_3, nu_4, nu_5, nu_8, nu_25, nu_m2, nu_m3, eq_self, ex_q1, ex_q2, ex_e]
  first | refine ⟨_, c_swarflaw05_num _ (by omega) (by omega), ?_⟩ | skip
  refine hK26 _ ?_
  refine rgnX_take 1 (fun K27 hK27 => ?_)
  simp (disch := omega) only [go_sem, nu_0, nu_1, nu_2, nu_3, nu_4, nu_5, nu_8, nu_25, nu_m2, nu_m3, eq_self, ex_q1, ex_q2, ex_e]
  first | refine ⟨_, c_swarflaw05_num _ (by omega) (by omega), ?_⟩ | skip
  refine hK27 _ ?_
  refine rgnX_take 1 (fun K28 hK28 => ?_)
  simp (disch := omega) only [go_sem, nu_0, nu_1, nu_2, nu_3, nu_4, nu_5, nu_8, nu_25, nu_m2, nu_m3, eq_self, ex_q1, ex_q2, ex_e]
  first | refine ⟨_, c_swarflaw05_num _ (by omega) (by omega), ?_⟩ | skip
  refine hK28 _ ?_
  refine rgnX_take 1 (fun K29 hK29 => ?_)
  simp (disch := omega) only [go_sem, nu_0, nu_1, nu_2, nu_3, nu_4, nu_5, nu_8, nu_25, nu_m2, nu_m3, eq_self, ex_q1, ex_q2, ex_e]
  first | refine ⟨_, c_swarflaw05_num _ (by omega) (by omega), ?_⟩ | skip
  refine hK29 _ ?_
  refine rgnX_take 1 (fun K30 hK30 => ?_)
  simp (disch := omega) only [go_sem, nu_0, nu_1, nu_2, nu_3, nu_4, nu_5, nu_8, nu_25, nu_m2, nu_m3, eq_self, ex_q1, ex_q2, ex_e]
  first | refine ⟨_, c_swarflaw05_num _ (by omega) (by omega), ?_⟩ | skip
  refine hK30 _ ?_
  refine rgnX_take 1 (fun K31 hK31 => ?_)
  simp (disch := omega) only [go_sem, nu_0, nu_1, nu_2, nu_3, nu_4, nu_5, nu_8, nu_25, nu_m2, nu_m3, eq_self, ex_q1, ex_q2, ex_e]
  first | refine ⟨_, c_swarflaw05_num _ (by omega) (by omega), ?_⟩ | skip
  refine hK31 _ ?_
  refine rgnX_take 2 (fun K32 hK32 => ?_)
  simp (disch := omega) only [go_sem, nu_0, nu_1, nu_2, nu_3, nu_4, nu_5, nu_8, nu_25, nu_m2, nu_m3, eq_self, ex_q1, ex_q2, ex_e]
  first | refine ⟨_, c_radical_Sign _ _ _ _ _ _ (by omega), ?_⟩ | skip
  refine hK32 _ ?_
  refine rgnX_take 4 (fun K33 hK33 => ?_)
  simp (disch := omega) only [go_sem, nu_0, nu_1, nu_2, nu_3, nu_4, nu_5, nu_8, nu_25, nu_m2, nu_m3, eq_self, ex_q1, ex_q2, ex_e]
  first | refine ⟨_, c_swarflaw05_root _ _ (by omega) (by omega) (by omega) (by omega), ?_⟩ | skip
  refine hK33 _ ?_
  refine rgnX_take 1 (fun K34 hK34 => ?_)
  simp (disch := omega) only [go_sem, nu_0, nu_1, nu_2, nu_3, nu_4, nu_5, nu_8, nu_25, nu_m2, nu_m3, eq_self, ex_q1, ex_q2, ex_e]
  first | refine ⟨_, c_swarflaw05_root _ _ (by omega) (by omega) (by omega) (by omega), ?_⟩ | skip
  refine hK34 _ ?_
  refine rgnX_take 1 (fun K35 hK35 => ?_)
  simp (disch := omega) only [go_sem, nu_0, nu_1, nu_2, nu_3, nu_4, nu_5, nu_8, nu_25, nu_m2, nu_m3, eq_self, ex_q1, ex_q2, ex_e]
  first | refine ⟨_, c_radical_Equal _ _ _ _ _ _ (by omega) (by decide) (by decide), ?_⟩ | skip
  refine hK35 _ ?_
  refine rgnX_take 12 (fun K36 hK36 => ?_)
  simp (disch := omega) only [go_sem, nu_0, nu_1, nu_2, nu_3, nu_4, nu_5, nu_8, nu_25, nu_m2, nu_m3, eq_self, ex_q1, ex_q2, ex_e]
  first | refine ⟨_, c_swarfref02_Frac _ _ (by omega) (by omega) (by omega) (by omega) (by omega), ?_⟩ | skip
  refine hK36 _ ?_
  refine rgnX_take 1 (fun K37 hK37 => ?_)
  simp (disch := omega) only [go_sem, nu_0, nu_1, nu_2, nu_3, nu_4, nu_5, nu_8, nu_25, nu_m2, nu_m3, eq_self, ex_q1, ex_q2, ex_e]
  first | refine ⟨_, c_swarfref02_Same4 _ _ _ _ (by omega), ?_⟩ | skip
  refine hK37 _ ?_
  refine rgnX_take 8 (fun K38 hK38 => ?_)
  simp (disch := omega) only [go_sem, nu_0, nu_1, nu_2, nu_3, nu_4, nu_5, nu_8, nu_25, nu_m2, nu_m3, eq_self, ex_q1, ex_q2, ex_e]
  first | refine ⟨_, c_swarflaw05_num _ (by omega) (by omega), ?_⟩ | skip
  refine hK38 _ ?_
  refine rgnX_take 1 (fun K39 hK39 => ?_)
  simp (disch := omega) only [go_sem, nu_0, nu_1, nu_2, nu_3, nu_4, nu_5, nu_8, nu_25, nu_m2, nu_m3, eq_self, ex_q1, ex_q2, ex_e]
  first | refine ⟨_, c_swarfref02_Same4 _ _ _ _ (by omega), ?_⟩ | skip
  refine hK39 _ ?_
  simp (disch := omega) only [go_sem, nu_0, nu_1, nu_2, nu_3, nu_4, nu_5, nu_8, nu_25, nu_m2, nu_m3, eq_self, ex_q1, ex_q2, ex_e]
  refine hK18 _ ?_
  clear hK39 K39 hK38 K38 hK37 K37 hK36 K36 hK35 K35 hK34 K34 hK33 K33 hK32 K32 hK31 K31 hK30 K30 hK29 K29 hK28 K28 hK27 K27 hK26 K26 hK25 K25 hK24 K24 hK23 K23 hK22 K22 hK21 K21 hK20 K20 hK19 K19 hK18 K18
  refine pwp_ret ?_
  refine ⟨Or.inr rfl, ?_⟩
  simp (disch := omega) only [go_sem, nu_0, nu_1, nu_2, nu_3, nu_4, nu_5, nu_8, nu_25, nu_m2, nu_m3, eq_self, ex_q1, ex_q2, ex_e]
  all_goals first | rfl | decide

end Go.Proofs.YtdojhoegildiaaaGreat

namespace Go.PL
open Go.RL
theorem idx_a0 {sz bs ag zz e k id off} : indexA ⟨sz, bs, ag, zz, .array 3 e⟩ 6 (some (.c (.ptr id off))) (some (.c (.int k 0))) = some (.ptr id off) := rfl
theorem idx_a1 {sz bs ag zz e k id off} : indexA ⟨sz, bs, ag, zz, .array 3 e⟩ 6 (some (.c (.ptr id off))) (some (.c (.int k 1))) = some (.ptr id (off + 6)) := rfl
theorem idx_a2 {sz bs ag zz e k id off} : indexA ⟨sz, bs, ag, zz, .array 3 e⟩ 6 (some (.c (.ptr id off))) (some (.c (.int k 2))) = some (.ptr id (off + 12)) := rfl
theorem of_hm {b b' c : Rat} : r3B b c = 0 ∨ r3B b' c = 0 ∨ r3C b c = r3C b' c := by
  by_cases h : b = 0 ∨ c = 0
  · exact .inl (r3_z h).1
  · by_cases h' : b' = 0 ∨ c = 0
    · exact .inr (.inl (r3_z h').1)
    · exact .inr (.inr (by rw [(r3_n h).2, (r3_n h').2]))
theorem pC_nn {b d c : Rat} (h : 0 ≤ c) : 0 ≤ pC b d c := by
  unfold pC; split
  · exact Rat.le_refl
  · exact h
theorem rK_nn {b c c' : Rat} (h : 0 ≤ c) (h' : 0 ≤ c') : 0 ≤ rK b c c' := by
  unfold rK; split
  · exact h'
  · exact h
theorem r3C_nn {b c : Rat} (h : 0 ≤ c) : 0 ≤ r3C b c := by
  unfold r3C; split
  · exact Rat.le_refl
  · exact h
theorem sgn_tr {x y : Re} (h : sgn x ≤ 0) (h' : sgn y ≤ 0) : sgn (x + y) ≤ 0 ∧ (sgn x < 0 ∨ sgn y < 0 → sgn (x + y) = -1) ∧ (sgn x = 0 → sgn y = 0 → sgn (x + y) = 0) := by
  obtain ⟨h1, h2, h3⟩ := nonneg_add (x := -x) (y := -y) (by rw [sgn_neg]; omega) (by rw [sgn_neg]; omega)
  have e : -x + -y = -(x + y) := Re.ext fun n => by simp only [Re.add_s, Re.neg_s]; grind
  rw [e, sgn_neg] at h1 h2 h3
  rw [sgn_neg, sgn_neg] at h2 h3
  exact ⟨by omega, fun q => by have := h2 (by omega); omega, fun q q' => by have := h3 (by omega) (by omega); omega⟩
theorem cmpR_tr {a b c a' b' c' a2 b2 c2 : Rat} (hc : 0 ≤ c) (hc' : 0 ≤ c') (hc2 : 0 ≤ c2) (h : cmpR a b c a' b' c' ≤ 0) (h' : cmpR a' b' c' a2 b2 c2 ≤ 0) :
    cmpR a b c a2 b2 c2 ≤ 0 ∧ (cmpR a b c a' b' c' < 0 ∨ cmpR a' b' c' a2 b2 c2 < 0 → cmpR a b c a2 b2 c2 = -1) ∧ (cmpR a b c a' b' c' = 0 → cmpR a' b' c' a2 b2 c2 = 0 → cmpR a b c a2 b2 c2 = 0) := by
  rw [cmpR_eq hc hc'] at h ⊢
  rw [cmpR_eq hc' hc2] at h' ⊢
  rw [cmpR_eq hc hc2]
  have e : v2 a b c - v2 a2 b2 c2 = (v2 a b c - v2 a' b' c') + (v2 a' b' c' - v2 a2 b2 c2) := Re.ext fun n => by simp only [Re.add_s, Re.sub_s]; grind
  rw [e]
  exact sgn_tr h h'
theorem lex_tr {x1 x2 x3 y1 y2 y3 : Int} (hx : x1 ≤ 0 → x2 ≤ 0 → x3 ≤ 0 ∧ (x1 < 0 ∨ x2 < 0 → x3 = -1) ∧ (x1 = 0 → x2 = 0 → x3 = 0)) (hy : y1 ≤ 0 → y2 ≤ 0 → y3 ≤ 0 ∧ (y1 < 0 ∨ y2 < 0 → y3 = -1) ∧ (y1 = 0 → y2 = 0 → y3 = 0))
    (h : (if x1 ≠ 0 then x1 else y1) ≤ 0) (h' : (if x2 ≠ 0 then x2 else y2) ≤ 0) : (if x3 ≠ 0 then x3 else y3) ≤ 0 ∧ ((if x1 ≠ 0 then x1 else y1) < 0 ∨ (if x2 ≠ 0 then x2 else y2) < 0 → (if x3 ≠ 0 then x3 else y3) < 0) := by
  have hx1 : x1 ≤ 0 := by split at h <;> omega
  have hx2 : x2 ≤ 0 := by split at h' <;> omega
  obtain ⟨a1, a2, a3⟩ := hx hx1 hx2
  by_cases c1 : x1 = 0
  · by_cases c2 : x2 = 0
    · have c3 := a3 c1 c2
      rw [if_neg (by omega)] at h h'
      obtain ⟨b1, b2, b3⟩ := hy h h'
      rw [if_neg (by omega), if_neg (by omega), if_neg (by omega)]
      exact ⟨b1, fun q => by have := b2 q; omega⟩
    · have := a2 (by omega)
      rw [show (if x3 ≠ 0 then x3 else y3) = x3 from if_pos (by omega)]
      exact ⟨a1, fun _ => by omega⟩
  · have := a2 (by omega)
    rw [show (if x3 ≠ 0 then x3 else y3) = x3 from if_pos (by omega)]
    exact ⟨a1, fun _ => by omega⟩
theorem cmpP_tr {a b d e c a' b' d' e' c' a2 b2 d2 e2 c2 : Rat} (hc : 0 ≤ c) (hc' : 0 ≤ c') (hc2 : 0 ≤ c2) (h : cmpP a b d e c a' b' d' e' c' ≤ 0) (h' : cmpP a' b' d' e' c' a2 b2 d2 e2 c2 ≤ 0) :
    cmpP a b d e c a2 b2 d2 e2 c2 ≤ 0 ∧ (cmpP a b d e c a' b' d' e' c' < 0 ∨ cmpP a' b' d' e' c' a2 b2 d2 e2 c2 < 0 → cmpP a b d e c a2 b2 d2 e2 c2 < 0) := by
  unfold cmpP at h h' ⊢
  exact lex_tr (fun q q' => cmpR_tr (rC_nn hc) (rC_nn hc') (rC_nn hc2) q q') (fun q q' => cmpR_tr (rC_nn hc) (rC_nn hc') (rC_nn hc2) q q') h h'
theorem cmpP_t {a b d e c a' b' d' e' c' v w : Rat} : cmpP (a + v) b (d + w) e c (a' + v) b' (d' + w) e' c' = cmpP a b d e c a' b' d' e' c' := by
  unfold cmpP cmpR
  rw [show a + v - (a' + v) = a - a' by grind, show d + w - (d' + w) = d - d' by grind]
theorem five5 {a b c : Int} (h : a ≤ 0 → b ≤ 0 → c ≤ 0 ∧ (a < 0 ∨ b < 0 → c < 0)) : ¬ a ≤ 0 ∨ (a ≤ 0 ∧ ¬ b ≤ 0) ∨ (a ≤ 0 ∧ b ≤ 0 ∧ a < 0 ∧ c < 0) ∨ (a ≤ 0 ∧ b ≤ 0 ∧ ¬ a < 0 ∧ b < 0 ∧ c < 0) ∨ (a ≤ 0 ∧ b ≤ 0 ∧ ¬ a < 0 ∧ ¬ b < 0 ∧ ¬ 0 < c) := by
  by_cases h1 : a ≤ 0
  · by_cases h2 : b ≤ 0
    · obtain ⟨h3, h4⟩ := h h1 h2
      by_cases h5 : a < 0
      · have := h4 (.inl h5); omega
      · by_cases h6 : b < 0
        · have := h4 (.inr h6); omega
        · omega
    · omega
  · omega
end Go.PL

set_option linter.unusedSimpArgs false
set_option linter.unusedVariables false
namespace Go.PL
open Go.RL
theorem idx_f1 {sz bs ag zz e k id off} : indexA ⟨sz, bs, ag, zz, .array 4 e⟩ 4 (some (.c (.ptr id off))) (some (.c (.int k 1))) = some (.ptr id (off + 4)) := rfl
theorem idx_f2 {sz bs ag zz e k id off} : indexA ⟨sz, bs, ag, zz, .array 4 e⟩ 4 (some (.c (.ptr id off))) (some (.c (.int k 2))) = some (.ptr id (off + 8)) := rfl
theorem idx_f3 {sz bs ag zz e k id off} : indexA ⟨sz, bs, ag, zz, .array 4 e⟩ 4 (some (.c (.ptr id off))) (some (.c (.int k 3))) = some (.ptr id (off + 12)) := rfl
theorem idx_f0 {sz bs ag zz e k id off} : indexA ⟨sz, bs, ag, zz, .array 4 e⟩ 4 (some (.c (.ptr id off))) (some (.c (.int k 0))) = some (.ptr id off) := rfl
theorem quad_bd (A B C D M N : Rat) : -1 ≤ quad A B C D M N ∧ quad A B C D M N ≤ 1 := by
  by_cases h : M < 0 ∨ N < 0
  · rw [quad_0 h]; decide
  · rw [quad_eq (by grind) (by grind)]
    rcases sgn_cases (v4 A B C D M N) with ⟨_, q⟩ | ⟨_, q⟩ | ⟨_, q⟩ <;> omega
theorem u16_nn (m : Nat) : (0 : Rat) ≤ ((m : Int) : Rat) := by exact_mod_cast Int.natCast_nonneg m
theorem rz_1 {x y a : Rat} (hx : 0 ≤ x) (hy : 0 ≤ y) : quad 0 a 0 0 (x * y) 0 = -quad 0 0 0 (-a) x y := by
  have hxy := Rat.mul_nonneg hx hy
  rw [quad_eq hxy Rat.le_refl, quad_eq hx hy]
  have e1 : v4 0 a 0 0 (x * y) 0 = Re.of a * rt (x * y) := Re.ext fun n => by simp only [v4, v2, Re.add_s, Re.mul_s, Re.of_s]; grind
  have e2 : v4 0 0 0 (-a) x y = -(Re.of a * (rt x * rt y)) := Re.ext fun n => by simp only [v4, v2, Re.add_s, Re.mul_s, Re.of_s, Re.neg_s]; grind
  rw [e1, e2, sgn_neg, Int.neg_neg, sgn_mul, sgn_mul, sgn_mul, sgn_rt hxy, sgn_rt hx, sgn_rt hy, sgnQ_mul]
theorem rz_2 {x a : Rat} (hx : 0 ≤ x) : quad 0 a (-2 * a) 0 (4 * x) x = 0 := by
  have h4 : (0 : Rat) ≤ 4 * x := Rat.mul_nonneg (by decide) hx
  rw [quad_eq h4 hx]
  refine sgn_zero.2 ?_
  have h1 : eqv (Re.of 2 * rt x) (rt (4 * x)) := by
    refine rt_unique (nn_mul (nn_of.2 (by decide)) (rt_nonneg x)) ?_
    have e : Re.of 2 * rt x * (Re.of 2 * rt x) - Re.of (4 * x) = Re.of 4 * (rt x * rt x - Re.of x) := Re.ext fun n => by simp only [Re.sub_s, Re.mul_s, Re.of_s]; grind
    show null _
    rw [e]; exact null_mul' _ (rt_sq hx)
  have e : v4 0 a (-2 * a) 0 (4 * x) x = Re.of (-a) * (Re.of 2 * rt x - rt (4 * x)) := Re.ext fun n => by simp only [v4, v2, Re.add_s, Re.sub_s, Re.mul_s, Re.of_s]; grind
  rw [e]; exact null_mul' _ h1
section
variable {a b c a' b' c' a2 b2 c2 k : Rat}
theorem ord_1 (hc : 0 ≤ c) (hc' : 0 ≤ c') (hc2 : 0 ≤ c2) (h : 0 ≤ cmpR a b c a' b' c') (h' : 0 ≤ cmpR a' b' c' a2 b2 c2) : cmpR a b c a' b' c' ≤ cmpR a b c a2 b2 c2 ∧ cmpR a' b' c' a2 b2 c2 ≤ cmpR a b c a2 b2 c2 := by
  have s1 := cmpR_swap (a := a) (b := b) (a' := a') (b' := b') hc hc'
  have s2 := cmpR_swap (a := a') (b := b') (a' := a2) (b' := b2) hc' hc2
  have s3 := cmpR_swap (a := a) (b := b) (a' := a2) (b' := b2) hc hc2
  obtain ⟨t1, t2⟩ := cmpR_tr (a := a2) (b := b2) (a' := a') (b' := b') (a2 := a) (b2 := b) hc2 hc' hc (by omega) (by omega)
  have d1 := cmpR_bd a b c a' b' c' hc hc'
  have d2 := cmpR_bd a' b' c' a2 b2 c2 hc' hc2
  rw [s1, s2, s3] at t2
  rw [s3] at t1
  constructor <;> omega
theorem ord_2 (hc : 0 ≤ c) (hc' : 0 ≤ c') (hc2 : 0 ≤ c2) (h : cmpR a b c a' b' c' ≤ 0) (h' : cmpR a' b' c' a2 b2 c2 ≤ 0) : cmpR a b c a2 b2 c2 ≤ cmpR a b c a' b' c' ∧ cmpR a b c a2 b2 c2 ≤ cmpR a' b' c' a2 b2 c2 := by
  obtain ⟨t1, t2⟩ := cmpR_tr (a2 := a2) (b2 := b2) hc hc' hc2 h h'
  have d1 := cmpR_bd a b c a' b' c' hc hc'
  have d2 := cmpR_bd a' b' c' a2 b2 c2 hc' hc2
  constructor <;> omega
theorem ord_3 (hc : 0 ≤ c) (hc' : 0 ≤ c') : cmpR (a + k) b c (a' + k) b' c' = cmpR a b c a' b' c' := by
  rw [cmpR_eq hc hc', cmpR_eq hc hc']
  congr 1
  apply Re.ext; intro n
  simp only [v2, Re.sub_s, Re.add_s, Re.mul_s, Re.of_s]; grind
theorem ord_4 (hc : 0 ≤ c) (hc' : 0 ≤ c') : cmpR (a * k) (b * k) c (a' * k) (b' * k) c' = cmpR a b c a' b' c' * sgnQ k := by
  rw [cmpR_eq hc hc', cmpR_eq hc hc', ← sgn_of, ← sgn_mul]
  congr 1
  apply Re.ext; intro n
  simp only [v2, Re.sub_s, Re.add_s, Re.mul_s, Re.of_s]; grind
end
theorem seven {x y z : Int} (h1 : 0 ≤ x → 0 ≤ y → x ≤ z ∧ y ≤ z) (h2 : x ≤ 0 → y ≤ 0 → z ≤ x ∧ z ≤ y) :
    (x < 0 ∧ 0 < y) ∨ (x < 0 ∧ y ≤ 0 ∧ ¬ (if y < x then y else x) < z) ∨ (0 < x ∧ y < 0) ∨ (x = 0 ∧ y < 0 ∧ ¬ (if y < x then y else x) < z) ∨ (0 < x ∧ 0 ≤ y ∧ ¬ z < (if x < y then y else x)) ∨ (x = 0 ∧ 0 < y ∧ ¬ z < (if x < y then y else x)) ∨ (x = 0 ∧ y = 0 ∧ ¬ z < (if x < y then y else x) ∧ ¬ (if y < x then y else x) < z) := by
  rcases Int.lt_trichotomy x 0 with c | c | c <;> rcases Int.lt_trichotomy y 0 with d | d | d
  · have := h2 (by omega) (by omega); right; left; refine ⟨c, by omega, ?_⟩; split <;> omega
  · have := h2 (by omega) (by omega); right; left; refine ⟨c, by omega, ?_⟩; split <;> omega
  · exact .inl ⟨c, d⟩
  · have := h2 (by omega) (by omega); right; right; right; left; refine ⟨c, d, ?_⟩; split <;> omega
  · have := h2 (by omega) (by omega); have := h1 (by omega) (by omega); right; right; right; right; right; right; refine ⟨c, d, ?_, ?_⟩ <;> split <;> omega
  · have := h1 (by omega) (by omega); right; right; right; right; right; left; refine ⟨c, d, ?_⟩; split <;> omega
  · exact .inr (.inr (.inl ⟨c, d⟩))
  · have := h1 (by omega) (by omega); right; right; right; right; left; refine ⟨c, by omega, ?_⟩; split <;> omega
  · have := h1 (by omega) (by omega); right; right; right; right; left; refine ⟨c, by omega, ?_⟩; split <;> omega
end Go.PL

set_option linter.unusedSimpArgs false
set_option linter.unusedVariables false
set_option maxRecDepth 20000
namespace Go.Proofs.YtdojhoegildiaaaGreat
open Go Go.PL Go.RL
set_option maxHeartbeats 4000000 in
theorem w_RadicalSign_x (n0 n1 n2 n3 n4 n5 n6 n7 n8 n9 n10 n11 : Bool) (l0 l1 l2 l3 l4 l5 l6 l7 l8 l9 l10 l11 : List Nat) (h1 : Ret Tryz.prog 11 [.c (.sl 6 [.bool n0, lC l0, .bool n1, lC l1, .bool n2, lC l2, .bool n3, lC l3, .bool n4, lC l4, .bool n5, lC l5, .bool n6, lC l6, .bool n7, lC l7, .bool n8, lC l8, .bool n9, lC l9, .bool n10, lC l10, .bool n11, lC l11])] (.e (.c (.bool false)))) :
    Ret Tryz.prog 3 [.a [.bool n0, lC l0, .bool n1, lC l1, .bool n2, lC l2, .bool n3, lC l3, .bool n4, lC l4, .bool n5, lC l5, .bool n6, lC l6, .bool n7, lC l7, .bool n8, lC l8, .bool n9, lC l9, .bool n10, lC l10, .bool n11, lC l11]] (.e (.c (.bool true))) := by
  refine ret_of_body (md := {}) Tryz.func3 (by kernel_rfl) rfl ?_
  simp only [Tryz.f3, List.map_cons, List.map_nil, List.length_cons, List.length_nil, Nat.zero_add, Nat.reduceAdd, Nat.reduceSub, List.reduceReplicate, List.cons_append, List.nil_append]
  refine pwx_sr 1 [] (by rfl) (fun K1 hK1 => ?_)
  simp (disch := omega) only [go_sem]
  refine hK1 _ ?_
  clear hK1 K1
  refine pwp_seq ?_
  refine pwx_sr 1 [some 3, some 4, some 5, some 6, some 7, some 8, some 9, some 10, some 11, some 12, some 13, some 14, some 15, some 16, some 17, some 18, some 19, some 20, some 21] (by rfl) (fun K2 hK2 => ?_)
  refine rgnX_take 1 (fun K3 hK3 => ?_)
  simp (maxSteps := 3000000) (disch := omega) only [go_sem]
  refine ⟨_, c_swarflaw05_awake, ?_⟩
  refine hK3 _ ?_
  refine rgnX_take 16 (fun K4 hK4 => ?_)
  simp (maxSteps := 3000000) (disch := omega) only [go_sem]
  first | refine ⟨_, h1, ?_⟩ | skip
  refine hK4 _ ?_
  simp (maxSteps := 3000000) (disch := omega) only [go_sem]
  refine hK2 _ ?_
  clear hK4 K4 hK3 K3 hK2 K2
  refine pwp_cond (b := true) (by rfl) (fun _ => ?_) (fun h => nomatch h)
  refine pwx_sr 0 [] (by rfl) (fun K5 hK5 => ?_)
  refine rgnX_take 1 (fun K6 hK6 => ?_)
  simp (disch := omega) only [go_sem]
  refine ⟨_, c_swarflaw05_awake, ?_⟩
  refine hK6 _ ?_
  simp (disch := omega) only [go_sem]
  refine hK5 _ ?_
  clear hK6 K6 hK5 K5
  refine pwp_ret ?_
  refine r_then ?_
  refine ⟨Or.inr rfl, ?_⟩
  simp (disch := omega) only [go_sem]
set_option maxHeartbeats 4000000 in
theorem w_RadicalSign_t (A B C D M N : Rat) [SzR A 2] [SzR B 2] [SzR C 2] [SzR D 2] [SzR M 2] [SzR N 2] :
    Ret Tryz.prog 3 [.a (ratC A ++ (ratC B ++ (ratC C ++ (ratC D ++ (ratC M ++ ratC N)))))] (.e (.c (.bool true))) := by
  refine ret_of_body (md := {}) Tryz.func3 (by kernel_rfl) rfl ?_
  simp only [Tryz.f3, List.map_cons, List.map_nil, List.length_cons, List.length_nil, Nat.zero_add, Nat.reduceAdd, Nat.reduceSub, List.reduceReplicate, List.cons_append, List.nil_append]
  refine pwx_sr 1 [] (by rfl) (fun K1 hK1 => ?_)
  simp (disch := omega) only [go_sem, eq_self]
  refine hK1 _ ?_
  clear hK1 K1
  refine pwp_seq ?_
  refine pwx_sr 1 [some 3, some 4, some 5, some 6, some 7, some 8, some 9, some 10, some 11, some 12, some 13, some 14, some 15, some 16, some 17, some 18, some 19, some 20, some 21] (by rfl) (fun K2 hK2 => ?_)
  refine rgnX_take 1 (fun K3 hK3 => ?_)
  simp (maxSteps := 3000000) (disch := omega) only [go_sem, eq_self]
  refine ⟨_, c_swarflaw05_awake, ?_⟩
  refine hK3 _ ?_
  refine rgnX_take 16 (fun K4 hK4 => ?_)
  simp (maxSteps := 3000000) (disch := omega) only [go_sem, eq_self]
  first | refine ⟨_, c_Few6_t _ _ _ _ _ _, ?_⟩ | skip
  refine hK4 _ ?_
  simp (maxSteps := 3000000) (disch := omega) only [go_sem, eq_self]
  refine hK2 _ ?_
  clear hK4 K4 hK3 K3 hK2 K2
  refine pwp_cond (b := false) (by rfl) (fun h => nomatch h) (fun _ => ?_)
  refine pwp_skip ?_
  refine n_then ?_
  refine pwx_sd Tryz.mixed 0 [] (by rfl) [] (by kernel_rfl) (by simp) (fun K5 hK5 => ?_)
  refine rgnX_take 2 (fun K6 hK6 => ?_)
  simp (disch := omega) only [go_sem, eq_self]
  refine ⟨_, c_radical_Sign _ _ _ _ _ _ (by omega), ?_⟩
  refine hK6 _ ?_
  refine rgnX_take 2 (fun K7 hK7 => ?_)
  simp (disch := omega) only [go_sem, eq_self]
  refine ⟨_, c_swarfref05_Sign _ _ _ _ _ _ (by omega), ?_⟩
  refine hK7 _ ?_
  simp (disch := omega) only [go_sem, eq_self]
  refine hK5 _ ?_
  clear hK7 K7 hK6 K6 hK5 K5
  refine pwp_ret ?_
  refine ⟨Or.inr rfl, ?_⟩
  simp (disch := omega) only [go_sem, eq_self]
  all_goals skip
theorem r_RadicalSign (n0 n1 n2 n3 n4 n5 n6 n7 n8 n9 n10 n11 : Bool) (l0 l1 l2 l3 l4 l5 l6 l7 l8 l9 l10 l11 : List Nat) : Ret Tryz.prog 3 [.a [.bool n0, lC l0, .bool n1, lC l1, .bool n2, lC l2, .bool n3, lC l3, .bool n4, lC l4, .bool n5, lC l5, .bool n6, lC l6, .bool n7, lC l7, .bool n8, lC l8, .bool n9, lC l9, .bool n10, lC l10, .bool n11, lC l11]] (.e (.c (.bool true))) := by
  rcases few6_or n0 n1 n2 n3 n4 n5 n6 n7 n8 n9 n10 n11 l0 l1 l2 l3 l4 l5 l6 l7 l8 l9 l10 l11 with h | ⟨A, B, C, D, M, N, s0, s1, s2, s3, s4, s5, e, h⟩
  · exact w_RadicalSign_x n0 n1 n2 n3 n4 n5 n6 n7 n8 n9 n10 n11 l0 l1 l2 l3 l4 l5 l6 l7 l8 l9 l10 l11 h
  · rw [e]; exact w_RadicalSign_t A B C D M N
set_option maxHeartbeats 4000000 in
theorem w_RadicalZero_x (z0 z1 : Bool) (l0 l1 : List Nat) (m n : Nat) (hm : m < 65536) (hn : n < 65536) (h1 : Ret Tryz.prog 11 [.c (.sl 1 [.bool z0, lC l0, .bool z1, lC l1])] (.e (.c (.bool false)))) :
    Ret Tryz.prog 4 [.c (.int .u16 (m : Int)), .c (.int .u16 (n : Int)), .a [.bool z0, lC l0, .bool z1, lC l1]] (.e (.c (.bool true))) := by
  refine ret_of_body (md := {}) Tryz.func4 (by kernel_rfl) rfl ?_
  simp only [Tryz.f4, List.map_cons, List.map_nil, List.length_cons, List.length_nil, Nat.zero_add, Nat.reduceAdd, Nat.reduceSub, List.reduceReplicate, List.cons_append, List.nil_append]
  refine pwx_sr 1 [] (by rfl) (fun K1 hK1 => ?_)
  simp (disch := omega) only [go_sem]
  refine hK1 _ ?_
  clear hK1 K1
  refine pwp_seq ?_
  refine pwx_sr 1 [some 12, some 13, some 14, some 15, some 16, some 17, some 18, some 19] (by rfl) (fun K2 hK2 => ?_)
  refine rgnX_take 1 (fun K3 hK3 => ?_)
  simp (disch := omega) only [go_sem]
  refine ⟨_, c_swarflaw05_awake, ?_⟩
  refine hK3 _ ?_
  refine rgnX_take 5 (fun K4 hK4 => ?_)
  simp (disch := omega) only [go_sem]
  first | refine ⟨_, h1, ?_⟩ | skip
  refine hK4 _ ?_
  simp (disch := omega) only [go_sem]
  refine hK2 _ ?_
  clear hK4 K4 hK3 K3 hK2 K2
  refine pwp_cond (b := true) (by rfl) (fun _ => ?_) (fun h => nomatch h)
  refine pwx_sr 0 [] (by rfl) (fun K5 hK5 => ?_)
  refine rgnX_take 1 (fun K6 hK6 => ?_)
  simp (disch := omega) only [go_sem]
  refine ⟨_, c_swarflaw05_awake, ?_⟩
  refine hK6 _ ?_
  simp (disch := omega) only [go_sem]
  refine hK5 _ ?_
  clear hK6 K6 hK5 K5
  refine pwp_ret ?_
  refine r_then ?_
  refine ⟨Or.inr rfl, ?_⟩
  simp (disch := omega) only [go_sem]
set_option maxHeartbeats 4000000 in
theorem w_RadicalZero_t (a : Rat) [SzR a 2] (m n : Nat) (hm : m < 65536) (hn : n < 65536) :
    Ret Tryz.prog 4 [.c (.int .u16 (m : Int)), .c (.int .u16 (n : Int)), .a (ratC a)] (.e (.c (.bool true))) := by
  refine ret_of_body (md := {}) Tryz.func4 (by kernel_rfl) rfl ?_
  simp only [Tryz.f4, List.map_cons, List.map_nil, List.length_cons, List.length_nil, Nat.zero_add, Nat.reduceAdd, Nat.reduceSub, List.reduceReplicate, List.cons_append, List.nil_append]
  haveI : SzR ((m : Int) : Rat) 3 := szr_i64 (by omega) (by omega)
  haveI : SzR ((n : Int) : Rat) 3 := szr_i64 (by omega) (by omega)
  have e1 := rz_1 (a := a) (u16_nn m) (u16_nn n)
  have e2 := rz_2 (a := a) (u16_nn m)
  obtain ⟨b1, b2⟩ := quad_bd 0 0 0 (-a) ((m : Int) : Rat) ((n : Int) : Rat)
  rw [← Int.zero_sub] at e1
  refine pwx_sr 1 [] (by rfl) (fun K1 hK1 => ?_)
  simp (disch := omega) only [go_sem, eq_self, nu_0, nu_1, nu_2, nu_3, nu_4, nu_m2]
  refine hK1 _ ?_
  clear hK1 K1
  refine pwp_seq ?_
  refine pwx_sr 1 [some 12, some 13, some 14, some 15, some 16, some 17, some 18, some 19] (by rfl) (fun K2 hK2 => ?_)
  refine rgnX_take 1 (fun K3 hK3 => ?_)
  simp (disch := omega) only [go_sem, eq_self, nu_0, nu_1, nu_2, nu_3, nu_4, nu_m2]
  refine ⟨_, c_swarflaw05_awake, ?_⟩
  refine hK3 _ ?_
  refine rgnX_take 5 (fun K4 hK4 => ?_)
  simp (disch := omega) only [go_sem, eq_self, nu_0, nu_1, nu_2, nu_3, nu_4, nu_m2]
  first | refine ⟨_, c_Few1_t _, ?_⟩ | skip
  refine hK4 _ ?_
  simp (disch := omega) only [go_sem, eq_self, nu_0, nu_1, nu_2, nu_3, nu_4, nu_m2]
  refine hK2 _ ?_
  clear hK4 K4 hK3 K3 hK2 K2
  refine pwp_cond (b := false) (by rfl) (fun h => nomatch h) (fun _ => ?_)
  refine pwp_skip ?_
  refine n_then ?_
  refine pwx_sr 2 [] (by rfl) (fun K5 hK5 => ?_)
  refine rgnX_take 3 (fun K6 hK6 => ?_)
  simp (disch := omega) only [go_sem, eq_self, nu_0, nu_1, nu_2, nu_3, nu_4, nu_m2]
  refine ⟨_, c_swarflaw05_num _ (by omega) (by omega), ?_⟩
  refine hK6 _ ?_
  refine rgnX_take 3 (fun K7 hK7 => ?_)
  simp (disch := omega) only [go_sem, eq_self, nu_0, nu_1, nu_2, nu_3, nu_4, nu_m2]
  refine ⟨_, c_swarflaw05_num _ (by omega) (by omega), ?_⟩
  refine hK7 _ ?_
  simp (disch := omega) only [go_sem, eq_self, nu_0, nu_1, nu_2, nu_3, nu_4, nu_m2]
  refine hK5 _ ?_
  clear hK7 K7 hK6 K6 hK5 K5
  refine pwx_sd Tryz.mixed 1 [] (by rfl) [] (by kernel_rfl) (by simp) (fun K8 hK8 => ?_)
  refine rgnX_take 1 (fun K9 hK9 => ?_)
  simp (disch := omega) only [go_sem, eq_self, nu_0, nu_1, nu_2, nu_3, nu_4, nu_m2]
  refine ⟨_, c_swarflaw05_num _ (by omega) (by omega), ?_⟩
  refine hK9 _ ?_
  refine rgnX_take 2 (fun K10 hK10 => ?_)
  simp (disch := omega) only [go_sem, eq_self, nu_0, nu_1, nu_2, nu_3, nu_4, nu_m2]
  refine ⟨_, c_swarflaw05_num _ (by omega) (by omega), ?_⟩
  refine hK10 _ ?_
  refine rgnX_take 1 (fun K11 hK11 => ?_)
  simp (disch := omega) only [go_sem, eq_self, nu_0, nu_1, nu_2, nu_3, nu_4, nu_m2]
  refine ⟨_, c_swarflaw05_num _ (by omega) (by omega), ?_⟩
  refine hK11 _ ?_
  refine rgnX_take 3 (fun K12 hK12 => ?_)
  simp (disch := omega) only [go_sem, eq_self, nu_0, nu_1, nu_2, nu_3, nu_4, nu_m2]
  refine ⟨_, c_swarfref02_Mul _ _ (by omega), ?_⟩
  refine hK12 _ ?_
  refine rgnX_take 1 (fun K13 hK13 => ?_)
  simp (disch := omega) only [go_sem, eq_self, nu_0, nu_1, nu_2, nu_3, nu_4, nu_m2]
  refine ⟨_, c_swarflaw05_num _ (by omega) (by omega), ?_⟩
  refine hK13 _ ?_
  simp (disch := omega) only [go_sem, eq_self, nu_0, nu_1, nu_2, nu_3, nu_4, nu_m2]
  refine hK8 _ ?_
  clear hK13 K13 hK12 K12 hK11 K11 hK10 K10 hK9 K9 hK8 K8
  refine pwx_sd Tryz.mixed 1 [] (by rfl) [] (by kernel_rfl) (by simp) (fun K14 hK14 => ?_)
  refine rgnX_take 1 (fun K15 hK15 => ?_)
  simp (disch := omega) only [go_sem, eq_self, nu_0, nu_1, nu_2, nu_3, nu_4, nu_m2]
  refine ⟨_, c_swarflaw05_num _ (by omega) (by omega), ?_⟩
  refine hK15 _ ?_
  refine rgnX_take 1 (fun K16 hK16 => ?_)
  simp (disch := omega) only [go_sem, eq_self, nu_0, nu_1, nu_2, nu_3, nu_4, nu_m2]
  refine ⟨_, c_swarflaw05_num _ (by omega) (by omega), ?_⟩
  refine hK16 _ ?_
  refine rgnX_take 1 (fun K17 hK17 => ?_)
  simp (disch := omega) only [go_sem, eq_self, nu_0, nu_1, nu_2, nu_3, nu_4, nu_m2]
  refine ⟨_, c_swarflaw05_num _ (by omega) (by omega), ?_⟩
  refine hK17 _ ?_
  refine rgnX_take 2 (fun K18 hK18 => ?_)
  simp (disch := omega) only [go_sem, eq_self, nu_0, nu_1, nu_2, nu_3, nu_4, nu_m2]
  refine ⟨_, c_swarfref02_Neg _ (by omega), ?_⟩
  refine hK18 _ ?_
  simp (disch := omega) only [go_sem, eq_self, nu_0, nu_1, nu_2, nu_3, nu_4, nu_m2]
  refine hK14 _ ?_
  clear hK18 K18 hK17 K17 hK16 K16 hK15 K15 hK14 K14
  refine pwp_seq ?_
  refine pwx_sd Tryz.mixed 0 [] (by rfl) [] (by kernel_rfl) (by simp) (fun K19 hK19 => ?_)
  refine rgnX_take 2 (fun K20 hK20 => ?_)
  simp (disch := omega) only [go_sem, eq_self, nu_0, nu_1, nu_2, nu_3, nu_4, nu_m2, e1]
  refine ⟨_, c_radical_Sign _ _ _ _ _ _ (by omega), ?_⟩
  refine hK20 _ ?_
  refine rgnX_take 2 (fun K21 hK21 => ?_)
  simp (disch := omega) only [go_sem, eq_self, nu_0, nu_1, nu_2, nu_3, nu_4, nu_m2, e1]
  refine ⟨_, c_radical_Sign _ _ _ _ _ _ (by omega), ?_⟩
  refine hK21 _ ?_
  simp (disch := omega) only [go_sem, eq_self, nu_0, nu_1, nu_2, nu_3, nu_4, nu_m2, e1]
  refine hK19 _ ?_
  clear hK21 K21 hK20 K20 hK19 K19
  refine pwp_cond (b := false) (by rfl) (fun h => nomatch h) (fun _ => ?_)
  refine pwp_skip ?_
  refine n_then ?_
  refine pwx_sd Tryz.mixed 1 [] (by rfl) [] (by kernel_rfl) (by simp) (fun K22 hK22 => ?_)
  refine rgnX_take 1 (fun K23 hK23 => ?_)
  simp (disch := omega) only [go_sem, eq_self, nu_0, nu_1, nu_2, nu_3, nu_4, nu_m2]
  refine ⟨_, c_swarflaw05_num _ (by omega) (by omega), ?_⟩
  refine hK23 _ ?_
  refine rgnX_take 2 (fun K24 hK24 => ?_)
  simp (disch := omega) only [go_sem, eq_self, nu_0, nu_1, nu_2, nu_3, nu_4, nu_m2]
  refine ⟨_, c_swarflaw05_num _ (by omega) (by omega), ?_⟩
  refine hK24 _ ?_
  refine rgnX_take 2 (fun K25 hK25 => ?_)
  simp (disch := omega) only [go_sem, eq_self, nu_0, nu_1, nu_2, nu_3, nu_4, nu_m2]
  refine ⟨_, c_swarfref02_Mul _ _ (by omega), ?_⟩
  refine hK25 _ ?_
  refine rgnX_take 1 (fun K26 hK26 => ?_)
  simp (disch := omega) only [go_sem, eq_self, nu_0, nu_1, nu_2, nu_3, nu_4, nu_m2]
  refine ⟨_, c_swarflaw05_num _ (by omega) (by omega), ?_⟩
  refine hK26 _ ?_
  refine rgnX_take 1 (fun K27 hK27 => ?_)
  simp (disch := omega) only [go_sem, eq_self, nu_0, nu_1, nu_2, nu_3, nu_4, nu_m2]
  refine ⟨_, c_swarflaw05_num _ (by omega) (by omega), ?_⟩
  refine hK27 _ ?_
  refine rgnX_take 2 (fun K28 hK28 => ?_)
  simp (disch := omega) only [go_sem, eq_self, nu_0, nu_1, nu_2, nu_3, nu_4, nu_m2]
  refine ⟨_, c_swarfref02_Mul _ _ (by omega), ?_⟩
  refine hK28 _ ?_
  simp (disch := omega) only [go_sem, eq_self, nu_0, nu_1, nu_2, nu_3, nu_4, nu_m2]
  refine hK22 _ ?_
  clear hK28 K28 hK27 K27 hK26 K26 hK25 K25 hK24 K24 hK23 K23 hK22 K22
  refine pwx_sr 0 [] (by rfl) (fun K29 hK29 => ?_)
  refine rgnX_take 2 (fun K30 hK30 => ?_)
  simp (disch := omega) only [go_sem, eq_self, nu_0, nu_1, nu_2, nu_3, nu_4, nu_m2, e2]
  refine ⟨_, c_radical_Sign _ _ _ _ _ _ (by omega), ?_⟩
  refine hK30 _ ?_
  simp (disch := omega) only [go_sem, eq_self, nu_0, nu_1, nu_2, nu_3, nu_4, nu_m2, e2]
  refine hK29 _ ?_
  clear hK30 K30 hK29 K29
  refine pwp_ret ?_
  refine ⟨Or.inr rfl, ?_⟩
  simp (disch := omega) only [go_sem, eq_self, nu_0, nu_1, nu_2, nu_3, nu_4, nu_m2]
  all_goals skip
theorem r_RadicalZero (m n : Nat) (hm : m < 65536) (hn : n < 65536) (z0 z1 : Bool) (l0 l1 : List Nat) : Ret Tryz.prog 4 [.c (.int .u16 (m : Int)), .c (.int .u16 (n : Int)), .a [.bool z0, lC l0, .bool z1, lC l1]] (.e (.c (.bool true))) := by
  rcases few1_or z0 z1 l0 l1 with h | ⟨a, s0, e, h⟩
  · exact w_RadicalZero_x z0 z1 l0 l1 m n hm hn h
  · rw [e]; exact w_RadicalZero_t a m n hm hn
theorem r_RadicalZero' (x y : Int) (hx : 0 ≤ x) (hx' : x < 65536) (hy : 0 ≤ y) (hy' : y < 65536) (z0 z1 : Bool) (l0 l1 : List Nat) : Ret Tryz.prog 4 [.c (.int .u16 x), .c (.int .u16 y), .a [.bool z0, lC l0, .bool z1, lC l1]] (.e (.c (.bool true))) := by
  obtain ⟨m, rfl⟩ := Int.eq_ofNat_of_zero_le hx
  obtain ⟨n, rfl⟩ := Int.eq_ofNat_of_zero_le hy
  exact r_RadicalZero m n (by omega) (by omega) z0 z1 l0 l1
end Go.Proofs.YtdojhoegildiaaaGreat

set_option linter.unusedSimpArgs false
namespace Go.PL
open Go.ChangeShapes Go.WideShapes Go.RowKit

/-- All memory of a world. -/
def GW (w : World) : GMem := fun b o => w.cell? ⟨b, o, none⟩
theorem GW_agree (w : World) : Agree (GW w) w := fun _ _ _ h => h
/-- A slice's address has no spot. -/
def Spot (v : Value) : Prop := ∀ a len cap, v = .slice (some a) len cap → a.spot = none

section
variable {H : Type} {enc : TypeId × Value → H} {P : Program} {w : World} {base : Nat} {spare : Nat → Bool} {held : Bool} {fuel : Nat} {t : TypeId} {cs : List Value} {x : DataW H × List MemPlace}

theorem op_bool (ht : P.underlying t = some .bool) (h : DataW.trod enc P w base spare held fuel t cs = some x) : ∃ b, All2 (IRep (GW w)) cs [.bool b] := by
  obtain ⟨b, rfl, _⟩ := DataW.trod_bool ht h
  exact ⟨b, .cons (.bool b) .nil⟩
theorem op_int {k : IntKind} (ht : P.underlying t = some (.int k)) (h : DataW.trod enc P w base spare held fuel t cs = some x) : ∃ n, (Lit.int k n).wf = true ∧ All2 (IRep (GW w)) cs [.int k n] := by
  obtain ⟨n, rfl, _, hw⟩ := DataW.trod_int ht h
  exact ⟨n, hw, .cons (.int k n) .nil⟩
theorem wf_u32 {n : Int} (h : (Lit.int .u32 n).wf = true) : 0 ≤ n ∧ n < 4294967296 := by
  simp only [Lit.wf, Bool.and_eq_true, decide_eq_true_eq] at h
  obtain ⟨h1, h2⟩ := h
  have e1 : IntKind.u32.min = 0 := by decide
  have e2 : IntKind.u32.max = 4294967295 := by decide
  rw [e1] at h1; rw [e2] at h2
  exact ⟨h1, by omega⟩
theorem wf_i64 {n : Int} (h : (Lit.int .i64 n).wf = true) : -9223372036854775808 ≤ n ∧ n < 9223372036854775808 := by
  simp only [Lit.wf, Bool.and_eq_true, decide_eq_true_eq] at h
  obtain ⟨h1, h2⟩ := h
  have e1 : IntKind.i64.min = -9223372036854775808 := by decide
  have e2 : IntKind.i64.max = 9223372036854775807 := by decide
  rw [e1] at h1; rw [e2] at h2
  exact ⟨h1, by omega⟩
theorem wf_i16 {n : Int} (h : (Lit.int .i16 n).wf = true) : -32768 ≤ n ∧ n < 32768 := by
  simp only [Lit.wf, Bool.and_eq_true, decide_eq_true_eq] at h
  obtain ⟨h1, h2⟩ := h
  have e1 : IntKind.i16.min = -32768 := by decide
  have e2 : IntKind.i16.max = 32767 := by decide
  rw [e1] at h1; rw [e2] at h2
  exact ⟨h1, by omega⟩
theorem wf_u16 {n : Int} (h : (Lit.int .u16 n).wf = true) : 0 ≤ n ∧ n < 65536 := by
  simp only [Lit.wf, Bool.and_eq_true, decide_eq_true_eq] at h
  obtain ⟨h1, h2⟩ := h
  have e1 : IntKind.u16.min = 0 := by decide
  have e2 : IntKind.u16.max = 65535 := by decide
  rw [e1] at h1; rw [e2] at h2
  exact ⟨h1, by omega⟩
theorem wf_u8 {n : Int} (h : (Lit.int .u8 n).wf = true) : 0 ≤ n ∧ n < 256 := by
  simp only [Lit.wf, Bool.and_eq_true, decide_eq_true_eq] at h
  obtain ⟨h1, h2⟩ := h
  have e1 : IntKind.u8.min = 0 := by decide
  have e2 : IntKind.u8.max = 255 := by decide
  rw [e1] at h1; rw [e2] at h2
  exact ⟨h1, by omega⟩
theorem op_u32s {e : TypeId} (ht : P.underlying t = some (.slice e)) (he : P.underlying e = some (.int .u32)) (hc : P.cellsOf e = 1) (hs : ∀ v ∈ cs, Spot v)
    (h : DataW.trod enc P w base spare held fuel t cs = some x) : ∃ l : List Nat, All2 (IRep (GW w)) cs [lC l] := by
  rcases open_ints ht he hc h with ⟨rfl, _⟩ | ⟨a, len, cap, zs, rfl, _, hl, _, hz, _, hcell, hw⟩
  · exact ⟨[], .cons .nil .nil⟩
  · have hsp : a.spot = none := hs _ (by simp) a len cap rfl
    have hlen : len ≤ zs.length := by rw [hz]; split <;> omega
    obtain ⟨b, off, sp⟩ := a
    simp only at hsp
    subst hsp
    refine ⟨(zs.take len).map Int.toNat, .cons ?_ .nil⟩
    rw [lC_eq]
    have hll : ((zs.take len).map Int.toNat).length = len := by simp; omega
    rw [hll]
    have hadd : ∀ i, (⟨b, off, none⟩ : Addr).add i = ⟨b, off + i, none⟩ := fun i => by
      unfold Addr.add
      split
      · rename_i h0; rw [h0]; rfl
      · rfl
    have key : ∀ i, i < len → zs.getD i 0 = (((zs.getD i 0).toNat : Nat) : Int) := fun i hi => by
      have hm : zs.getD i 0 ∈ zs := by
        rw [List.getD_eq_getElem?_getD, List.getElem?_eq_getElem (show i < zs.length by omega)]
        exact List.getElem_mem _
      have := wf_u32 (hw _ hm)
      omega
    refine .sl b off len cap _ (fun i => .int .u32 (zs.getD i 0)) hl (fun i hi => ?_) (fun i hi => ?_)
    · simp only [u32s, List.length_map, List.length_take] at hi
      have := hcell i (by omega)
      rw [hadd] at this
      exact this
    · simp only [u32s, List.length_map, List.length_take] at hi
      have hg : (u32s ((zs.take len).map Int.toNat))[i]'(by simpa [u32s] using hi) = .int .u32 (zs.getD i 0) := by
        rw [key i (by omega)]
        simp [u32s, List.getD_eq_getElem?_getD, List.getElem?_eq_getElem (show i < zs.length by omega)]
      rw [hg]
      exact .int _ _
theorem op_piece {R : Value → PC → Prop} {off n m : Nat} {A B : List PC} (hm : off + n = m) (h1 : All2 R ((cs.drop off).take n) A) (h2 : All2 R (cs.drop m) B) : All2 R (cs.drop off) (A ++ B) := by
  have := h1.append h2
  rw [← hm, ← List.drop_drop, List.take_append_drop] at this
  exact this
theorem op_end {R : Value → PC → Prop} {n : Nat} (h : cs.length = n) : All2 R (cs.drop n) [] := by
  rw [← h, List.drop_length]; exact .nil
theorem sp_piece {off n : Nat} (h : ∀ v ∈ cs, Spot v) : ∀ v ∈ (cs.drop off).take n, Spot v := fun v hv => h v (List.mem_of_mem_drop (List.mem_of_mem_take hv))
/-- A field of a struct. -/
theorem op_field {fs : Array Field} (ht : P.underlying t = some (.struct fs)) (h : DataW.trod enc P w base spare held fuel t cs = some x) {i : Nat} {f : Field} (hi : fs[i]? = some f) {n : Nat} (hn : P.cellsOf f.type = n) :
    ∃ fuel' y, DataW.trod enc P w base spare held fuel' f.type ((cs.drop f.offset).take n) = some y := by
  obtain ⟨xs, m, _, _, _, hlen, hf⟩ := DataW.trod_struct ht h
  have hlt : i < xs.length := by
    rw [hlen]
    rcases Nat.lt_or_ge i fs.size with c | c
    · exact c
    · rw [Array.getElem?_eq_none c] at hi; cases hi
  have := hf i f hi
  rw [List.getElem?_eq_getElem hlt, hn] at this
  exact ⟨m, _, this⟩
theorem op_elem {e : TypeId} {k : Nat} (ht : P.underlying t = some (.array k e)) (h : DataW.trod enc P w base spare held fuel t cs = some x) {i : Nat} (hi : i < k) {n : Nat} (hn : P.cellsOf e = n) {off : Nat} (ho : i * n = off) :
    ∃ fuel' y, DataW.trod enc P w base spare held fuel' e ((cs.drop off).take n) = some y := by
  obtain ⟨xs, m, _, _, _, hlen, hf⟩ := DataW.trod_array ht h
  have := hf i hi
  rw [List.getElem?_eq_getElem (by omega), hn, ho] at this
  exact ⟨m, _, this⟩
theorem op_len {fs : Array Field} (ht : P.underlying t = some (.struct fs)) (h : DataW.trod enc P w base spare held fuel t cs = some x) {n : Nat} (hn : P.cellsOf t = n) : cs.length = n := by
  obtain ⟨xs, m, _, _, hl, _, _⟩ := DataW.trod_struct ht h
  rw [hl, hn]
theorem op_lenA {e : TypeId} {k : Nat} (ht : P.underlying t = some (.array k e)) (h : DataW.trod enc P w base spare held fuel t cs = some x) {n : Nat} (hn : P.cellsOf t = n) : cs.length = n := by
  obtain ⟨xs, m, _, _, hl, _, _⟩ := DataW.trod_array ht h
  rw [hl, hn]
end

theorem spot_cell {P : Program} {w : World} {r : Reach} {base : Nat} {t : TypeId} {v : Value} (h : Cell.okWide P w r base t v) : Spot v := by
  rintro a len cap rfl
  unfold Cell.okWide at h
  split at h
  all_goals first | (rename_i hv; cases hv; done) | (rename_i hv _; cases hv; done) | skip
  · unfold Cell.ok at h
    split at h <;> first | (rename_i hv; cases hv; done) | skip
    · rename_i hv
      simp only [Value.slice.injEq, Option.some.injEq] at hv
      obtain ⟨rfl, rfl, rfl⟩ := hv
      exact h.2.2.2.1
    · exact h.elim
theorem spot_agg {P : Program} {w : World} {r : Reach} {base : Nat} {t : TypeId} {fs : Array Field} (ht : P.underlying t = some (.struct fs)) {v : Value} (h : Value.okWide P w r base t v) : ∃ cs, v = .agg cs ∧ ∀ u ∈ cs.toList, Spot u := by
  unfold Value.okWide at h
  rw [ht] at h
  obtain ⟨cs, rfl, _, ts, _, _, hr⟩ := h
  refine ⟨cs, rfl, fun u hu => ?_⟩
  obtain ⟨i, hi⟩ := List.getElem?_of_mem hu
  obtain ⟨q, _, hq⟩ := hr i u (by rw [← Array.getElem?_toList]; exact hi)
  exact spot_cell hq
theorem spot_aggA {P : Program} {w : World} {r : Reach} {base : Nat} {t : TypeId} {e : TypeId} {k : Nat} (ht : P.underlying t = some (.array k e)) {v : Value} (h : Value.okWide P w r base t v) : ∃ cs, v = .agg cs ∧ ∀ u ∈ cs.toList, Spot u := by
  unfold Value.okWide at h
  rw [ht] at h
  obtain ⟨cs, rfl, _, ts, _, _, hr⟩ := h
  refine ⟨cs, rfl, fun u hu => ?_⟩
  obtain ⟨i, hi⟩ := List.getElem?_of_mem hu
  obtain ⟨q, _, hq⟩ := hr i u (by rw [← Array.getElem?_toList]; exact hi)
  exact spot_cell hq
/-- A struct's value stands for its cells. -/
theorem op_agg {G : GMem} {cs : Array Value} {ps : List PC} (h : All2 (IRep G) cs.toList ps) : RepE G (fun _ => 0) (fun _ => False) (.agg cs) (.a ps) := ⟨cs, rfl, h.mono fun _ _ => RepC.of_irep⟩
theorem sc_int {G : GMem} (k : IntKind) (n : Int) : RepE G (fun _ => 0) (fun _ => False) (.int k n) (.c (.int k n)) := show RepC G (fun _ => 0) (fun _ => False) (.int k n) (.int k n) from RepC.of_irep (.int k n)
/-- What a law that returns true tells its row. -/
theorem law_true {P : Program} {f : FuncId} {args : List PE} (h : Ret P f args (.e (.c (.bool true)))) {w : World} {vs : Array Value} (hv : All2 (RepE (GW w) (fun _ => 0) (fun _ => False)) vs.toList args) :
    Calls P f vs w fun e w' => e = .returned (.bool true) ∧ Below w.heap.size w w' := by
  refine (h.2 (GW w) w vs (GW_agree w) hv).mono ?_
  rintro e w' ⟨v, G', rfl, hr, _, _, _, hb⟩
  have hr' : IRep G' v (.bool true) := hr
  cases hr'
  exact ⟨rfl, hb⟩
end Go.PL

set_option linter.unusedSimpArgs false
set_option linter.unusedVariables false
set_option maxRecDepth 20000
namespace Go.Proofs.YtdojhoegildiaaaGreat
open Go Go.PL
open Go.ChangeShapes Go.WideShapes Go.RowKit
theorem op24 {H : Type} {enc : TypeId × Value → H} {w : World} {base : Nat} {spare : Nat → Bool} {held : Bool} {fuel : Nat} {cs : List Value} {x : DataW H × List MemPlace} (h : DataW.trod enc Tryz.prog w base spare held fuel 24 cs = some x) (hs : ∀ v ∈ cs, Spot v) :
    ∃ c0 : Bool, ∃ c1 : List Nat, All2 (IRep (GW w)) cs [.bool c0, lC c1] := by
  obtain ⟨f0, y0, h0⟩ := op_field Tryz.underlying24 h (i := 0) rfl (n := 1) (by kernel_rfl)
  obtain ⟨c0, r0⟩ := op_bool Tryz.underlying4 h0
  obtain ⟨f1, y1, h1⟩ := op_field Tryz.underlying24 h (i := 1) rfl (n := 1) (by kernel_rfl)
  obtain ⟨c1, r1⟩ := op_u32s Tryz.underlying22 Tryz.underlying118 (by kernel_rfl) (sp_piece hs) h1
  have r := op_piece (off := 0) rfl r0 (op_piece (off := 1) rfl r1 (op_end (op_len Tryz.underlying24 h (by kernel_rfl))))
  exact ⟨c0, c1, r⟩

theorem op26 {H : Type} {enc : TypeId × Value → H} {w : World} {base : Nat} {spare : Nat → Bool} {held : Bool} {fuel : Nat} {cs : List Value} {x : DataW H × List MemPlace} (h : DataW.trod enc Tryz.prog w base spare held fuel 26 cs = some x) (hs : ∀ v ∈ cs, Spot v) :
    ∃ c0 : Bool, ∃ c1 : List Nat, ∃ c2 : Bool, ∃ c3 : List Nat, All2 (IRep (GW w)) cs [.bool c0, lC c1, .bool c2, lC c3] := by
  obtain ⟨f0, y0, h0⟩ := op_field Tryz.underlying26 h (i := 0) rfl (n := 2) (by kernel_rfl)
  obtain ⟨c0, c1, r0⟩ := op24 h0 (sp_piece hs)
  obtain ⟨f1, y1, h1⟩ := op_field Tryz.underlying26 h (i := 1) rfl (n := 2) (by kernel_rfl)
  obtain ⟨c2, c3, r1⟩ := op24 h1 (sp_piece hs)
  have r := op_piece (off := 0) rfl r0 (op_piece (off := 2) rfl r1 (op_end (op_len Tryz.underlying26 h (by kernel_rfl))))
  exact ⟨c0, c1, c2, c3, r⟩

theorem op28 {H : Type} {enc : TypeId × Value → H} {w : World} {base : Nat} {spare : Nat → Bool} {held : Bool} {fuel : Nat} {cs : List Value} {x : DataW H × List MemPlace} (h : DataW.trod enc Tryz.prog w base spare held fuel 28 cs = some x) (hs : ∀ v ∈ cs, Spot v) :
    ∃ c0 : Bool, ∃ c1 : List Nat, ∃ c2 : Bool, ∃ c3 : List Nat, ∃ c4 : Bool, ∃ c5 : List Nat, ∃ c6 : Bool, ∃ c7 : List Nat, ∃ c8 : Bool, ∃ c9 : List Nat, ∃ c10 : Bool, ∃ c11 : List Nat, ∃ c12 : Bool, ∃ c13 : List Nat, ∃ c14 : Bool, ∃ c15 : List Nat, ∃ c16 : Bool, ∃ c17 : List Nat, ∃ c18 : Bool, ∃ c19 : List Nat, ∃ c20 : Bool, ∃ c21 : List Nat, ∃ c22 : Bool, ∃ c23 : List Nat, All2 (IRep (GW w)) cs [.bool c0, lC c1, .bool c2, lC c3, .bool c4, lC c5, .bool c6, lC c7, .bool c8, lC c9, .bool c10, lC c11, .bool c12, lC c13, .bool c14, lC c15, .bool c16, lC c17, .bool c18, lC c19, .bool c20, lC c21, .bool c22, lC c23] := by
  obtain ⟨f0, y0, h0⟩ := op_field Tryz.underlying28 h (i := 0) rfl (n := 4) (by kernel_rfl)
  obtain ⟨c0, c1, c2, c3, r0⟩ := op26 h0 (sp_piece hs)
  obtain ⟨f1, y1, h1⟩ := op_field Tryz.underlying28 h (i := 1) rfl (n := 4) (by kernel_rfl)
  obtain ⟨c4, c5, c6, c7, r1⟩ := op26 h1 (sp_piece hs)
  obtain ⟨f2, y2, h2⟩ := op_field Tryz.underlying28 h (i := 2) rfl (n := 4) (by kernel_rfl)
  obtain ⟨c8, c9, c10, c11, r2⟩ := op26 h2 (sp_piece hs)
  obtain ⟨f3, y3, h3⟩ := op_field Tryz.underlying28 h (i := 3) rfl (n := 4) (by kernel_rfl)
  obtain ⟨c12, c13, c14, c15, r3⟩ := op26 h3 (sp_piece hs)
  obtain ⟨f4, y4, h4⟩ := op_field Tryz.underlying28 h (i := 4) rfl (n := 4) (by kernel_rfl)
  obtain ⟨c16, c17, c18, c19, r4⟩ := op26 h4 (sp_piece hs)
  obtain ⟨f5, y5, h5⟩ := op_field Tryz.underlying28 h (i := 5) rfl (n := 4) (by kernel_rfl)
  obtain ⟨c20, c21, c22, c23, r5⟩ := op26 h5 (sp_piece hs)
  have r := op_piece (off := 0) rfl r0 (op_piece (off := 4) rfl r1 (op_piece (off := 8) rfl r2 (op_piece (off := 12) rfl r3 (op_piece (off := 16) rfl r4 (op_piece (off := 20) rfl r5 (op_end (op_len Tryz.underlying28 h (by kernel_rfl))))))))
  exact ⟨c0, c1, c2, c3, c4, c5, c6, c7, c8, c9, c10, c11, c12, c13, c14, c15, c16, c17, c18, c19, c20, c21, c22, c23, r⟩

end Go.Proofs.YtdojhoegildiaaaGreat
