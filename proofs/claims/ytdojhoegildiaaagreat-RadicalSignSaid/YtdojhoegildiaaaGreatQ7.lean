/- How near two roots can be to each other. Conditions: each lemma's own.
   The simplest fraction between two roots: what it is, that there is but one, how continued fractions lead to it. Conditions: each lemma's own.
   The roots that a continued fraction leads through: their sizes, their values. Conditions: each lemma's own.
   Comparing roots with fractions, inverses: in the walks. Conditions: each lemma's own.
   The walks of comparing roots with fractions, of inverses. Conditions: none.
   Nearby points, in plain terms. Conditions: each lemma's own.
   The walk of radical.between, case by case. Conditions: none.
   The way of a continued fraction between two roots, and that it ends at the simplest fraction. Conditions: each lemma's own.
   The reference's way between two roots. Conditions: each lemma's own.
   The walk of radical.Between. Conditions: none.
   The walk of the reference's floor of roots. Conditions: none.
   The walk of the reference's Between. Conditions: none. -/
import Derived.Test.YtdojhoegildiaaaGreatQ6
set_option linter.unusedVariables false
set_option linter.unusedSimpArgs false
namespace Go.PL
open Go.RL
theorem nn_null {x y z : Re} (hz : null z) (e : ∀ n, y.s n = x.s n + z.s n) (h : 0 ≤ sgn x) : 0 ≤ sgn y := by
  have : y = x + z := Re.ext e
  rw [this, sgn_add_null _ hz]; exact h
theorem nn_1 {x : Re} (h : sgn x = 1) : 0 ≤ sgn x := by omega
theorem rt_nn (q : Rat) : 0 ≤ sgn (rt q) := rt_nonneg q
/-- A square root is not greater than one more than the radicand. -/
theorem rt_hi {c : Rat} (hc : 0 ≤ c) : 0 ≤ sgn (Re.of (c + 1) - rt c) := by
  refine le_of_sq (nn_of.2 (by grind)) ?_
  refine nn_null (x := Re.of ((c + 1) * (c + 1) - c)) (z := -(rt c * rt c - Re.of c)) (null_neg (rt_sq hc)) (fun n => ?_) (nn_of.2 ?_)
  · simp only [Re.sub_s, Re.mul_s, Re.neg_s, Re.of_s]; grind
  · have := Rat.mul_nonneg hc hc; grind
theorem natAbs_ge (n : Int) : (n : Rat) ≤ ((n.natAbs : Int) : Rat) ∧ -(n : Rat) ≤ ((n.natAbs : Int) : Rat) := by
  refine ⟨by exact_mod_cast (show n ≤ (n.natAbs : Int) by omega), ?_⟩
  have h : -n ≤ (n.natAbs : Int) := by omega
  have h2 : ((-n : Int) : Rat) ≤ ((n.natAbs : Int) : Rat) := by exact_mod_cast h
  rwa [Rat.intCast_neg] at h2
theorem natAbs_nn (n : Int) : (0 : Rat) ≤ ((n.natAbs : Int) : Rat) := by exact_mod_cast (show (0 : Int) ≤ (n.natAbs : Int) by omega)
/-- A fraction is not greater than its numerator. -/
theorem num_ge (q : Rat) : q ≤ ((q.num.natAbs : Int) : Rat) ∧ -q ≤ ((q.num.natAbs : Int) : Rat) := by
  have h1 := den_mul q
  have h2 : (1 : Rat) ≤ q.den := by exact_mod_cast q.den_pos
  obtain ⟨h3, h4⟩ := natAbs_ge q.num
  have h5 := natAbs_nn q.num
  constructor
  · by_cases h : 0 ≤ q
    · have := Rat.mul_nonneg h (show (0 : Rat) ≤ q.den - 1 by grind); grind
    · grind
  · by_cases h : 0 ≤ -q
    · have := Rat.mul_nonneg h (show (0 : Rat) ≤ q.den - 1 by grind); grind
    · grind
/-- A bound of a root. -/
def bdI (V W M : Rat) : Int := (V.num.natAbs : Int) + (W.num.natAbs : Int) * ((M.num.natAbs : Int) + 1)
instance SzI.natAbs {x : Int} {k : Nat} [h : SzI x k] : SzI ((x.natAbs : Nat) : Int) k := SzI.of_lt (by have := h.lt; simpa using this)
theorem ic1 : ((1 : Int) : Rat) = 1 := rfl
theorem part_hi {W M : Rat} (hM : 0 ≤ M) : 0 ≤ sgn (Re.of ((((W.num.natAbs : Int) * ((M.num.natAbs : Int) + 1) : Int)) : Rat) - Re.of W * rt M) := by
  obtain ⟨w1, w2⟩ := num_ge W
  have w3 := natAbs_nn W.num
  obtain ⟨m1, m2⟩ := num_ge M
  have h1 := nn_mul (nn_of.2 w3) (rt_hi hM)
  have h2 := nn_mul (nn_of.2 (show 0 ≤ ((W.num.natAbs : Int) : Rat) - W by grind)) (rt_nn M)
  have h3 : 0 ≤ ((W.num.natAbs : Int) : Rat) * (((M.num.natAbs : Int) : Rat) - M) := Rat.mul_nonneg w3 (by grind)
  refine nn_eq (fun n => ?_) (nn_add (nn_add h1 h2) (nn_of.2 h3))
  simp only [Re.add_s, Re.sub_s, Re.mul_s, Re.of_s, Rat.intCast_mul, Rat.intCast_add, ic1]
  grind
theorem bd_hi {V W M : Rat} (hM : 0 ≤ M) : 0 ≤ sgn (Re.of (bdI V W M : Int) - v2 V W M) := by
  obtain ⟨v1, v2'⟩ := num_ge V
  refine nn_eq (fun n => ?_) (nn_add (nn_of.2 (show 0 ≤ ((V.num.natAbs : Int) : Rat) - V by grind)) (part_hi (W := W) hM))
  simp only [bdI, v2, Re.add_s, Re.sub_s, Re.mul_s, Re.of_s, Rat.intCast_mul, Rat.intCast_add, ic1]
  grind
theorem v2_neg {V W M : Rat} : v2 (-V) (-W) M = -v2 V W M := Re.ext fun n => by simp only [v2, Re.add_s, Re.mul_s, Re.of_s, Re.neg_s]; grind
theorem bd_lo {V W M : Rat} (hM : 0 ≤ M) : 0 ≤ sgn (Re.of (bdI V W M : Int) - -v2 V W M) := by
  have h := bd_hi (V := -V) (W := -W) hM
  rw [v2_neg] at h
  simpa [bdI, Rat.neg_num] using h
theorem bdI_nn (V W M : Rat) : 0 ≤ bdI V W M := by
  unfold bdI
  have : 0 ≤ (W.num.natAbs : Int) * ((M.num.natAbs : Int) + 1) := Int.mul_nonneg (by omega) (by omega)
  omega
theorem v2_conj {V W M : Rat} (hM : 0 ≤ M) : null (v2 V W M * v2 V (-W) M - Re.of (V * V - W * W * M)) := by
  have e : v2 V W M * v2 V (-W) M - Re.of (V * V - W * W * M) = Re.of (-(W * W)) * (rt M * rt M - Re.of M) := Re.ext fun n => by
    simp only [v2, Re.add_s, Re.sub_s, Re.mul_s, Re.of_s]; grind
  rw [e]; exact null_mul' _ (rt_sq hM)
theorem cast_pos {n : Int} (h : 0 < n) : (1 : Rat) ≤ (n : Rat) := by
  have : ((1 : Int) : Rat) ≤ (n : Rat) := by exact_mod_cast (show (1 : Int) ≤ n by omega)
  rwa [ic1] at this
theorem sgn_mul0 {x y : Re} (h : null (x * y)) (hx : sgn x = 1) : null y := by
  have := sgn_null h
  rw [sgn_mul, hx, Int.one_mul] at this
  exact sgn_zero.1 this
/-- A root that is positive is not small. -/
theorem sep2 {V W M : Rat} {k l m : Nat} [SzR V k] [SzR W l] [SzR M m] (hM : 0 ≤ M) (h : sgn (v2 V W M) = 1) :
    ∃ q : Int, 0 < q ∧ SzI q (k + k + (l + l + m) + 1 + (k + (l + m + 1 + 1) + 1)) ∧ 0 ≤ sgn (Re.of q * v2 V W M - Re.of 1) := by
  have hN := v2_conj (V := V) (W := W) hM
  by_cases hr : V * V - W * W * M = 0
  · have hy : null (v2 V (-W) M) := by
      refine sgn_mul0 ?_ h
      have e : v2 V W M * v2 V (-W) M = v2 V W M * v2 V (-W) M - Re.of (V * V - W * W * M) := Re.ext fun n => by rw [hr]; simp only [Re.sub_s, Re.of_s]; grind
      rw [e]; exact hN
    have hV : 0 < V := by
      have h1 : sgn (v2 V W M + v2 V (-W) M) = 1 := by rw [sgn_add_null _ hy]; exact h
      have e : v2 V W M + v2 V (-W) M = Re.of (V + V) := Re.ext fun n => by simp only [v2, Re.add_s, Re.mul_s, Re.of_s]; grind
      rw [e, sgn_of] at h1
      have := (sgnQ_gtz (V + V)).symm ▸ (show 0 < sgnQ (V + V) by omega)
      grind
    have hn : 0 < V.num := num_pos_iff.2 hV
    refine ⟨(V.den : Int), by have := V.den_pos; omega, (inferInstance : SzI (V.den : Int) k).mono (by omega), ?_⟩
    have c1 := cast_pos hn
    have c2 := den_mul V
    refine nn_null (x := Re.of ((V.num : Rat) + V.num - 1)) (z := -(Re.of (((V.den : Int) : Rat)) * v2 V (-W) M)) (null_neg (null_mul' _ hy)) (fun n => ?_) (nn_of.2 (by grind))
    simp only [v2, Re.add_s, Re.sub_s, Re.mul_s, Re.of_s, Re.neg_s, Rat.intCast_natCast]
    grind
  · have hK := bdI_nn V (-W) M
    generalize hrr : V * V - W * W * M = r at *
    haveI sr : SzR r (k + k + (l + l + m) + 1) := by rw [← hrr]; exact (inferInstance : SzR _ _).mono (by omega)
    have hq0 := r.den_pos
    have sK : SzI (bdI V (-W) M) (k + (l + m + 1 + 1) + 1) := by
      unfold bdI
      have : SzI (M.num.natAbs + 1 : Int) (m + 1 + 1) := (inferInstance : SzI _ (max m 1 + 1)).mono (by omega)
      exact (inferInstance : SzI _ _).mono (by omega)
    have key : ∀ s : Int, (s = 1 ∨ s = -1) → 0 < s * r.num → ∃ q : Int, 0 < q ∧ SzI q (k + k + (l + l + m) + 1 + (k + (l + m + 1 + 1) + 1)) ∧ 0 ≤ sgn (Re.of q * v2 V W M - Re.of 1) := by
      intro s hs hsr
      have hKs : 0 ≤ sgn (Re.of (bdI V (-W) M : Int) - Re.of s * v2 V (-W) M) := by
        rcases hs with rfl | rfl
        · refine nn_eq (fun n => ?_) (bd_hi (V := V) (W := -W) hM)
          simp only [Re.sub_s, Re.mul_s, Re.of_s, ic1]; grind
        · refine nn_eq (fun n => ?_) (bd_lo (V := V) (W := -W) hM)
          have e1 : ((-1 : Int) : Rat) = -1 := rfl
          simp only [Re.sub_s, Re.mul_s, Re.of_s, Re.neg_s, e1]; grind
      have c1 := cast_pos hsr
      have c2 := den_mul r
      have c0 : (0 : Rat) ≤ (r.den : Rat) := nn _
      have hpos : 0 < (r.den : Int) * bdI V (-W) M := by
        refine Int.mul_pos (by omega) ?_
        rcases Int.lt_or_eq_of_le hK with hk | hk
        · exact hk
        · exfalso
          have a1 := bd_hi (V := V) (W := -W) hM
          have a2 := bd_lo (V := V) (W := -W) hM
          rw [← hk] at a1 a2
          have b1 : sgn (Re.of ((0 : Int) : Rat) - v2 V (-W) M) = sgn (-v2 V (-W) M) := by congr 1; exact Re.ext fun n => by simp only [Re.sub_s, Re.of_s, Re.neg_s]; grind
          have b2 : sgn (Re.of ((0 : Int) : Rat) - -v2 V (-W) M) = sgn (v2 V (-W) M) := by congr 1; exact Re.ext fun n => by simp only [Re.sub_s, Re.of_s, Re.neg_s]; grind
          rw [b1, sgn_neg] at a1
          rw [b2] at a2
          have h0 : null (v2 V (-W) M) := sgn_zero.1 (by omega)
          have h1 : null (Re.of r) := by
            have := null_sub (null_mul' (v2 V W M) h0) hN
            refine fun e he => ?_
            obtain ⟨N, hN'⟩ := this e he
            refine ⟨N, fun n hn => ?_⟩
            have := hN' n hn
            simp only [Re.sub_s, Re.mul_s, Re.of_s] at this ⊢
            have e2 : (v2 V W M).s n * (v2 V (-W) M).s n - ((v2 V W M).s n * (v2 V (-W) M).s n - r) = r := by grind
            rwa [e2] at this
          have := sgn_null h1
          rw [sgn_of, sgnQ_eqz] at this
          exact hr this
      refine ⟨(r.den : Int) * bdI V (-W) M, hpos, (inferInstance : SzI ((r.den : Int) * bdI V (-W) M) _).mono (by omega), ?_⟩
      refine nn_null (x := Re.of (r.den : Rat) * (v2 V W M * (Re.of (bdI V (-W) M : Int) - Re.of s * v2 V (-W) M)) + Re.of ((r.den : Rat) * s * r - 1)) (z := Re.of ((r.den : Rat) * s) * (v2 V W M * v2 V (-W) M - Re.of r)) (null_mul' _ hN) (fun n => ?_) (nn_add (nn_mul (nn_of.2 c0) (nn_mul (nn_1 h) hKs)) (nn_of.2 ?_))
      · simp only [Re.add_s, Re.sub_s, Re.mul_s, Re.of_s, Rat.intCast_mul, Rat.intCast_natCast]; grind
      · have e3 : (r.den : Rat) * s * r = ((s * r.num : Int) : Rat) := by rw [Rat.intCast_mul, ← c2]; grind
        rw [e3]; grind
    have hn : r.num ≠ 0 := num_ne hr
    rcases Int.lt_or_gt_of_ne hn with c | c
    · exact key (-1) (.inr rfl) (by omega)
    · exact key 1 (.inl rfl) (by omega)
/-- Two roots that differ do not lie near to each other. -/
theorem sep4 {a b c a' b' c' : Rat} {k : Nat} [SzR a k] [SzR b k] [SzR c k] [SzR a' k] [SzR b' k] [SzR c' k] (hc : 0 ≤ c) (hc' : 0 ≤ c') (h : sgn (v2 a' b' c' - v2 a b c) = 1) :
    ∃ q : Int, 0 < q ∧ SzI q (100 * k + 100) ∧ 0 ≤ sgn (Re.of q * (v2 a' b' c' - v2 a b c) - Re.of 1) := by
  have eV : v2 a' b' c' - v2 a b c = v2 (a' - a) b' c' - Re.of b * rt c := Re.ext fun n => by simp only [v2, Re.add_s, Re.sub_s, Re.mul_s, Re.of_s]; grind
  rw [eV] at h ⊢
  generalize hU : a' - a = U at *
  haveI sU : SzR U (k + k + 1) := by rw [← hU]; infer_instance
  generalize hP : v2 U b' c' = P at *
  generalize hV : U * U + b' * b' * c' - b * b * c = V at *
  haveI sV : SzR V (12 * k + 10) := by rw [← hV]; exact (inferInstance : SzR _ _).mono (by omega)
  have hN : null ((P - Re.of b * rt c) * (P + Re.of b * rt c) - v2 V (U * b' + U * b') c') := by
    have e : (P - Re.of b * rt c) * (P + Re.of b * rt c) - v2 V (U * b' + U * b') c' = Re.of (b' * b') * (rt c' * rt c' - Re.of c') - Re.of (b * b) * (rt c * rt c - Re.of c) := Re.ext fun n => by
      rw [← hV, ← hP]; simp only [v2, Re.add_s, Re.sub_s, Re.mul_s, Re.of_s]; grind
    rw [e]; exact null_sub (null_mul' _ (rt_sq hc')) (null_mul' _ (rt_sq hc))
  have hK : ∀ s : Int, (s = 1 ∨ s = -1) → 0 ≤ sgn (Re.of ((bdI U b' c' + bdI 0 b c : Int) : Rat) - Re.of s * (P + Re.of b * rt c)) := by
    intro s hs
    rcases hs with rfl | rfl
    · refine nn_eq (fun n => ?_) (nn_add (bd_hi (V := U) (W := b') hc') (bd_hi (V := 0) (W := b) hc))
      rw [← hP]; simp only [v2, Re.add_s, Re.sub_s, Re.mul_s, Re.of_s, ic1, Rat.intCast_add]; grind
    · refine nn_eq (fun n => ?_) (nn_add (bd_lo (V := U) (W := b') hc') (bd_lo (V := 0) (W := b) hc))
      have e1 : ((-1 : Int) : Rat) = -1 := rfl
      rw [← hP]; simp only [v2, Re.add_s, Re.sub_s, Re.mul_s, Re.of_s, Re.neg_s, e1, Rat.intCast_add]; grind
  have sK : SzI (bdI U b' c' + bdI 0 b c) (6 * k + 10) := by
    have s0 : SzI (c'.num.natAbs + 1 : Int) (k + 1 + 1) := (inferInstance : SzI _ (max k 1 + 1)).mono (by omega)
    have s1 : SzI (c.num.natAbs + 1 : Int) (k + 1 + 1) := (inferInstance : SzI _ (max k 1 + 1)).mono (by omega)
    unfold bdI
    exact (inferInstance : SzI _ _).mono (by omega)
  rcases sgn_cases (v2 V (U * b' + U * b') c') with ⟨_, hy⟩ | ⟨_, hy⟩ | ⟨_, hy⟩
  · obtain ⟨q, q1, q2, q3⟩ := sep2 hc' hy
    refine ⟨q * (bdI U b' c' + bdI 0 b c + 1), Int.mul_pos q1 (by have := bdI_nn U b' c'; have := bdI_nn 0 b c; omega), (inferInstance : SzI _ _).mono (by omega), ?_⟩
    have c0 : (0 : Rat) ≤ (q : Rat) := by exact_mod_cast (show 0 ≤ q by omega)
    refine nn_null (x := Re.of (q : Rat) * ((P - Re.of b * rt c) * (Re.of ((bdI U b' c' + bdI 0 b c : Int) : Rat) - Re.of ((1 : Int) : Rat) * (P + Re.of b * rt c))) + (Re.of (q : Rat) * v2 V (U * b' + U * b') c' - Re.of 1) + Re.of (q : Rat) * (P - Re.of b * rt c)) (z := Re.of (q : Rat) * ((P - Re.of b * rt c) * (P + Re.of b * rt c) - v2 V (U * b' + U * b') c')) (null_mul' _ hN) (fun n => ?_) (nn_add (nn_add (nn_mul (nn_of.2 c0) (nn_mul (nn_1 h) (hK 1 (.inl rfl)))) q3) (nn_mul (nn_of.2 c0) (nn_1 h)))
    simp only [Re.add_s, Re.sub_s, Re.mul_s, Re.of_s, Rat.intCast_mul, Rat.intCast_add, ic1]; grind
  · have hy' : sgn (v2 (-V) (-(U * b' + U * b')) c') = 1 := by rw [v2_neg, sgn_neg, hy]; rfl
    obtain ⟨q, q1, q2, q3⟩ := sep2 hc' hy'
    refine ⟨q * (bdI U b' c' + bdI 0 b c + 1), Int.mul_pos q1 (by have := bdI_nn U b' c'; have := bdI_nn 0 b c; omega), (inferInstance : SzI _ _).mono (by omega), ?_⟩
    have c0 : (0 : Rat) ≤ (q : Rat) := by exact_mod_cast (show 0 ≤ q by omega)
    have e1 : ((-1 : Int) : Rat) = -1 := rfl
    rw [v2_neg] at q3
    refine nn_null (x := Re.of (q : Rat) * ((P - Re.of b * rt c) * (Re.of ((bdI U b' c' + bdI 0 b c : Int) : Rat) - Re.of ((-1 : Int) : Rat) * (P + Re.of b * rt c))) + (Re.of (q : Rat) * -v2 V (U * b' + U * b') c' - Re.of 1) + Re.of (q : Rat) * (P - Re.of b * rt c)) (z := Re.of (-(q : Rat)) * ((P - Re.of b * rt c) * (P + Re.of b * rt c) - v2 V (U * b' + U * b') c')) (null_mul' _ hN) (fun n => ?_) (nn_add (nn_add (nn_mul (nn_of.2 c0) (nn_mul (nn_1 h) (hK (-1) (.inr rfl)))) q3) (nn_mul (nn_of.2 c0) (nn_1 h)))
    simp only [Re.add_s, Re.sub_s, Re.mul_s, Re.of_s, Re.neg_s, Rat.intCast_mul, Rat.intCast_add, ic1, e1]; grind
  · have hz : null (P + Re.of b * rt c) := by
      refine sgn_mul0 ?_ h
      have e : (P - Re.of b * rt c) * (P + Re.of b * rt c) = ((P - Re.of b * rt c) * (P + Re.of b * rt c) - v2 V (U * b' + U * b') c') + v2 V (U * b' + U * b') c' := Re.ext fun n => by simp only [Re.add_s, Re.sub_s, Re.mul_s]; grind
      rw [e]; exact null_add hN (sgn_zero.1 hy)
    have hp : sgn (v2 U b' c') = 1 := by
      have h1 : sgn (P - Re.of b * rt c + (P + Re.of b * rt c)) = 1 := by rw [sgn_add_null _ hz]; exact h
      have e : P - Re.of b * rt c + (P + Re.of b * rt c) = Re.of 2 * v2 U b' c' := Re.ext fun n => by rw [← hP]; simp only [v2, Re.add_s, Re.sub_s, Re.mul_s, Re.of_s]; grind
      rw [e, sgn_mul, sgn_of, sgnQ_pos (by decide), Int.one_mul] at h1
      exact h1
    obtain ⟨q, q1, q2, q3⟩ := sep2 hc' hp
    rw [hP] at q3
    refine ⟨q, q1, q2.mono (by omega), ?_⟩
    refine nn_null (x := Re.of 2 * (Re.of (q : Rat) * P - Re.of 1) + Re.of 1) (z := -(Re.of (q : Rat) * (P + Re.of b * rt c))) (null_neg (null_mul' _ hz)) (fun n => ?_) (nn_add (nn_mul (nn_of.2 (by decide)) q3) (nn_of.2 (by decide)))
    simp only [Re.add_s, Re.sub_s, Re.mul_s, Re.of_s, Re.neg_s]; grind
end Go.PL

namespace Go.PL
open Go.RL
/-- A root that the program may meet: no square under the root sign. -/
def Rdc (b c : Rat) : Prop := 0 ≤ c ∧ (b = 0 ∨ sqB c = false)
theorem irr {u b c : Rat} (hb : b ≠ 0) (hc : 0 ≤ c) (hs : sqB c = false) : sgn (v2 u b c) ≠ 0 := by
  intro h0
  have h1 := null_sub (null_mul (sgn_zero.1 h0) (v2 u (-b) c)) (v2_conj (V := u) (W := b) hc)
  have e : v2 u b c * v2 u (-b) c - (v2 u b c * v2 u (-b) c - Re.of (u * u - b * b * c)) = Re.of (u * u - b * b * c) := Re.ext fun n => by simp only [Re.sub_s, Re.mul_s, Re.of_s]; grind
  rw [e] at h1
  have h2 := sgn_null h1
  rw [sgn_of, sgnQ_eqz] at h2
  have h3 : (u / b) * (u / b) = c := by
    have hb2 : b * b ≠ 0 := fun q => by rcases Rat.mul_eq_zero.1 q with q | q <;> exact hb q
    have h4 : u / b * b = u := Rat.div_mul_cancel hb
    generalize u / b = w at *
    have h5 : (w * w - c) * (b * b) = 0 := by rw [← h4] at h2; grind
    rcases Rat.mul_eq_zero.1 h5 with q | q
    · grind
    · exact absurd q hb2
  have := sqB_of h3
  rw [hs] at this; cases this
/-- The greatest integer that is not greater than a root. -/
theorem flR_lt {a b c : Rat} (h : Rdc b c) : sgn (v2 (a - ((flR a b c : Int) + 1)) b c) = -1 := by
  obtain ⟨hc, h⟩ := h
  obtain ⟨_, h2⟩ := flR_spec (a := a) (b := b) hc
  have h1 : sgn (v2 (a - ((flR a b c : Int) + 1)) b c) ≠ 0 := by
    by_cases hb : b = 0
    · rw [hb, v2_b0, sgn_of, flR_z rfl]
      have := lt_fl a
      have : a - ((a.floor : Rat) + 1) < 0 := by grind
      rw [← sgnQ_ltz] at this; omega
    · exact irr hb hc (h.resolve_left hb)
  have := sgn_cases (v2 (a - ((flR a b c : Int) + 1)) b c)
  rcases this with ⟨_, q⟩ | ⟨_, q⟩ | ⟨_, q⟩ <;> omega
theorem v2_shift (a b c z : Rat) : v2 (a - z) b c = v2 a b c - Re.of z := Re.ext fun n => by simp only [v2, Re.add_s, Re.sub_s, Re.mul_s, Re.of_s]; grind
theorem sgn_pos1 {x : Re} (h : 0 ≤ sgn (x - Re.of 1)) : sgn x = 1 := by
  have h1 : sgn (Re.of 1) = 1 := by rw [sgn_of]; rfl
  have := (nonneg_add h (show 0 ≤ sgn (Re.of 1) by omega)).2.1 (.inr (by omega))
  have e : x - Re.of 1 + Re.of 1 = x := Re.ext fun n => by simp only [Re.add_s, Re.sub_s, Re.of_s]; grind
  rwa [e] at this
theorem sgn_add_nn {x y : Re} (h : sgn x = 1) (h' : 0 ≤ sgn y) : sgn (x + y) = 1 := (nonneg_add (by omega) h').2.1 (.inl (by omega))
theorem v2_mono_neg {a b c z z' : Rat} (h : sgn (v2 (a - z) b c) = -1) (hz : z ≤ z') : sgn (v2 (a - z') b c) = -1 := by
  have h1 : sgn (-v2 (a - z) b c + Re.of (z' - z)) = 1 := sgn_add_nn (by rw [sgn_neg]; omega) (nn_of.2 (by grind))
  have e : v2 (a - z') b c = -(-v2 (a - z) b c + Re.of (z' - z)) := Re.ext fun n => by simp only [v2, Re.add_s, Re.neg_s, Re.mul_s, Re.of_s]; grind
  rw [e, sgn_neg, h1]
theorem v2_mono_pos {a b c z z' : Rat} (h : sgn (v2 (a - z) b c) = 1) (hz : z' ≤ z) : sgn (v2 (a - z') b c) = 1 := by
  have h1 : sgn (v2 (a - z) b c + Re.of (z - z')) = 1 := sgn_add_nn h (nn_of.2 (by grind))
  have e : v2 (a - z') b c = v2 (a - z) b c + Re.of (z - z') := Re.ext fun n => by simp only [v2, Re.add_s, Re.mul_s, Re.of_s]; grind
  rw [e, h1]
/-- Strictly between two roots. -/
def Btw (a b c a' b' c' z : Rat) : Prop := sgn (v2 (a - z) b c) = -1 ∧ sgn (v2 (a' - z) b' c') = 1
theorem Btw.conv {a b c a' b' c' u v w : Rat} (hu : Btw a b c a' b' c' u) (hw : Btw a b c a' b' c' w) (h : u ≤ v) (h' : v ≤ w) : Btw a b c a' b' c' v :=
  ⟨v2_mono_neg hu.1 h, v2_mono_pos hw.2 h'⟩
theorem Rdc.scale {b c : Rat} (h : Rdc b c) (q : Rat) : Rdc (b * q) c := ⟨h.1, h.2.imp (fun e => by rw [e]; grind) id⟩
/-- The greatest integer that is not greater than a root: how long it is. -/
theorem flR_sz {a b c : Rat} {k l m : Nat} [SzR a k] [SzR b l] [SzR c m] (h : Rdc b c) : SzI (flR a b c) (k + l + m + 5) := by
  obtain ⟨f1, _⟩ := flR_spec (a := a) (b := b) h.1
  have f2 := flR_lt (a := a) h
  have b1 := bd_hi (V := a) (W := b) h.1
  have b2 := bd_lo (V := a) (W := b) h.1
  have b0 := bdI_nn a b c
  generalize flR a b c = f at *
  have h1 : f ≤ bdI a b c := by
    have h2 : 0 ≤ sgn (Re.of ((bdI a b c : Int) : Rat) - Re.of (f : Rat)) := nn_eq (fun n => by simp only [v2, Re.add_s, Re.sub_s, Re.mul_s, Re.of_s]; grind) (nn_add b1 f1)
    rw [← Re.of_sub, nn_of] at h2
    have h3 : (f : Rat) ≤ ((bdI a b c : Int) : Rat) := by grind
    exact_mod_cast h3
  have h2 : -(bdI a b c + 1) ≤ f := by
    have h2 : 0 ≤ sgn (Re.of ((bdI a b c : Int) : Rat) + Re.of ((f : Rat) + 1)) := nn_eq (fun n => by simp only [v2, Re.add_s, Re.sub_s, Re.mul_s, Re.of_s, Re.neg_s]; grind) (nn_add b2 (show 0 ≤ sgn (-v2 (a - ((f : Rat) + 1)) b c) by rw [sgn_neg]; omega))
    rw [← Re.of_add, nn_of] at h2
    have h3 : ((-(bdI a b c + 1) : Int) : Rat) ≤ (f : Rat) := by rw [Rat.intCast_neg, Rat.intCast_add, ic1]; grind
    exact_mod_cast h3
  have sK : SzI (bdI a b c + 1) (k + l + m + 5) := by
    have s0 : SzI (c.num.natAbs + 1 : Int) (m + 1 + 1) := (inferInstance : SzI _ (max m 1 + 1)).mono (by omega)
    have s1 : SzI (bdI a b c) (k + (l + (m + 1 + 1)) + 1) := by unfold bdI; exact (inferInstance : SzI _ _).mono (by omega)
    exact (inferInstance : SzI _ (max (k + (l + (m + 1 + 1)) + 1) 1 + 1)).mono (by omega)
  exact sK.le_of (by omega)
/-- Between two roots lies a fraction that is not long. -/
theorem dens {a b c a' b' c' : Rat} {k : Nat} [SzR a k] [SzR b k] [SzR c k] [SzR a' k] [SzR b' k] [SzR c' k] (h : Rdc b c) (hc' : 0 ≤ c') (hs : sgn (v2 a' b' c' - v2 a b c) = 1) :
    ∃ z : Rat, Btw a b c a' b' c' z ∧ SzI (z.den : Int) (100 * k + 101) ∧ SzI z.num (210 * k + 220) := by
  obtain ⟨q, q1, q2, q3⟩ := sep4 h.1 hc' hs
  obtain ⟨f1, _⟩ := flR_spec (a := a * ((2 * q : Int) : Rat)) (b := b * ((2 * q : Int) : Rat)) h.1
  have f2 := flR_lt (a := a * ((2 * q : Int) : Rat)) (h.scale ((2 * q : Int) : Rat))
  haveI s1 : SzR ((2 * q : Int) : Rat) (100 * k + 101) := SzR.int ((inferInstance : SzI (2 * q) _).mono (by omega)) (by omega)
  have s2 : SzI (flR (a * ((2 * q : Int) : Rat)) (b * ((2 * q : Int) : Rat)) c) (205 * k + 210) := (flR_sz (h.scale _)).mono (by omega)
  generalize flR (a * ((2 * q : Int) : Rat)) (b * ((2 * q : Int) : Rat)) c = f at *
  have hq : (2 * q : Int) ≠ 0 := by omega
  have em := divInt_mul (n := f + 1) hq
  have e2 : ((2 : Int) : Rat) = 2 := rfl
  have hq1 := cast_pos q1
  refine ⟨Rat.divInt (f + 1) (2 * q), ⟨?_, ?_⟩, ?_, ?_⟩
  rotate_left 2
  · exact ((inferInstance : SzI (2 * q) _).mono (by omega)).le_of (by have := (divInt_le (f + 1) (2 * q) hq).2; omega)
  · exact ((inferInstance : SzI (f + 1) _).mono (by omega)).le_of (divInt_le (f + 1) (2 * q) hq).1
  · rw [Rat.intCast_add, ic1] at em
    generalize Rat.divInt (f + 1) (2 * q) = z at *
    have e : v2 (a * ((2 * q : Int) : Rat) - ((f : Rat) + 1)) (b * ((2 * q : Int) : Rat)) c = Re.of ((2 * q : Int) : Rat) * v2 (a - z) b c := Re.ext fun n => by rw [← em]; simp only [v2, Re.add_s, Re.mul_s, Re.of_s]; grind
    rw [e, sgn_mul, sgn_of, sgnQ_pos (by rw [Rat.intCast_mul, e2]; grind), Int.one_mul] at f2
    exact f2
  · rw [Rat.intCast_add, ic1] at em
    generalize Rat.divInt (f + 1) (2 * q) = z at *
    have h1 : sgn (Re.of ((2 * q : Int) : Rat) * v2 (a' - z) b' c') = 1 := by
      refine sgn_pos1 (nn_eq (fun n => ?_) (nn_add (nn_mul (nn_of.2 (show (0 : Rat) ≤ 2 by decide)) q3) f1))
      rw [Rat.intCast_mul, e2] at em ⊢
      simp only [v2, Re.add_s, Re.sub_s, Re.mul_s, Re.of_s]; grind
    rw [sgn_mul, sgn_of, sgnQ_pos (by rw [Rat.intCast_mul, e2]; grind), Int.one_mul] at h1
    exact h1
/-- The simplest one: the least denominator; among integers, the nearest to 0. -/
def Simp (I : Rat → Prop) (x : Rat) : Prop := I x ∧ (∀ z, I z → x.den ≤ z.den) ∧ (x.den = 1 → ∀ z, I z → z.den = 1 → x.num.natAbs ≤ z.num.natAbs)
/-- The simplest one in an interval of positive numbers: the least numerator and denominator. -/
def SimpP (I : Rat → Prop) (x : Rat) : Prop := I x ∧ ∀ z, I z → x.num ≤ z.num ∧ x.den ≤ z.den
theorem SimpP.simp {I : Rat → Prop} {x : Rat} (h : SimpP I x) (hp : ∀ z, I z → 0 ≤ z) : Simp I x :=
  ⟨h.1, fun z hz => (h.2 z hz).2, fun _ z hz _ => by
    have h1 := (h.2 z hz).1
    have h2 := Rat.num_nonneg.2 (hp x h.1)
    omega⟩
theorem Simp.neg {I J : Rat → Prop} {x : Rat} (h : Simp I x) (hJ : ∀ z, J z ↔ I (-z)) : Simp J (-x) := by
  refine ⟨(hJ _).2 (by rw [Rat.neg_neg]; exact h.1), fun z hz => ?_, fun h1 z hz h2 => ?_⟩
  · have := h.2.1 _ ((hJ z).1 hz); rwa [Rat.neg_den] at this ⊢
  · have := h.2.2 (by rwa [Rat.neg_den] at h1) _ ((hJ z).1 hz) (by rwa [Rat.neg_den])
    rwa [Rat.neg_num, Int.natAbs_neg] at this ⊢
theorem le_iff_num {x y : Rat} : x ≤ y ↔ x.num * (y.den : Int) ≤ y.num * (x.den : Int) := by
  have h1 := num_den x; have h2 := num_den y
  have d1 : (0 : Rat) < ((x.den : Int) : Rat) := by exact_mod_cast (show (0 : Int) < x.den by have := x.den_pos; omega)
  have d2 : (0 : Rat) < ((y.den : Int) : Rat) := by exact_mod_cast (show (0 : Int) < y.den by have := y.den_pos; omega)
  have e1 : ((x.num * (y.den : Int) : Int) : Rat) = x * ((x.den : Int) : Rat) * ((y.den : Int) : Rat) := by rw [Rat.intCast_mul, h1]
  have e2 : ((y.num * (x.den : Int) : Int) : Rat) = y * ((x.den : Int) : Rat) * ((y.den : Int) : Rat) := by rw [Rat.intCast_mul, ← h2]; grind
  constructor
  · intro h
    have h3 : 0 ≤ (y - x) * (((x.den : Int) : Rat) * ((y.den : Int) : Rat)) := Rat.mul_nonneg (by grind) (Rat.mul_nonneg (by grind) (by grind))
    have h4 : ((x.num * (y.den : Int) : Int) : Rat) ≤ ((y.num * (x.den : Int) : Int) : Rat) := by rw [e1, e2]; grind
    exact_mod_cast h4
  · intro h
    have h4 : ((x.num * (y.den : Int) : Int) : Rat) ≤ ((y.num * (x.den : Int) : Int) : Rat) := by exact_mod_cast h
    rw [e1, e2] at h4
    by_cases c : x ≤ y
    · exact c
    · have h3 : 0 < (x - y) * (((x.den : Int) : Rat) * ((y.den : Int) : Rat)) := Rat.mul_pos (by grind) (Rat.mul_pos d1 d2)
      grind
theorem den1 {x : Rat} (h : x.den = 1) : x = (x.num : Rat) := by
  have := den_mul x
  rw [h] at this
  simpa using this
/-- Below the greater one of two fractions with a common denominator lies one with a lesser denominator. -/
theorem between_den {x y : Rat} (h : x < y) (hd : x.den = y.den) (h1 : x.den ≠ 1) : ∃ z : Rat, x ≤ z ∧ z ≤ y ∧ z.den < x.den := by
  have hpos := x.den_pos
  have hxy : x.num + 1 ≤ y.num := by
    have : ¬ y ≤ x := Rat.not_le.2 h
    rw [le_iff_num, hd] at this
    have hp := y.den_pos
    have h2 := Int.lt_of_mul_lt_mul_right (Int.not_le.1 this) (by omega)
    omega
  have hr := x.reduced
  generalize hp : x.num = p at *
  generalize hq : y.num = p2 at *
  obtain ⟨d, hdd⟩ : ∃ d : Int, d = (x.den : Int) := ⟨_, rfl⟩
  have d2 : 2 ≤ d := by omega
  have hnd : ¬ d ∣ p := fun hdv => by
    have h2 : x.den ∣ p.natAbs := by have := Int.natAbs_dvd_natAbs.2 hdv; rw [hdd] at this; simpa using this
    have h3 := Nat.Coprime.eq_one_of_dvd hr.symm h2
    exact h1 h3
  have hm := Int.mul_ediv_add_emod (p * (d - 1)) d
  have hm0 := Int.emod_nonneg (p * (d - 1)) (show d ≠ 0 by omega)
  have hm1 := Int.emod_lt_of_pos (p * (d - 1)) (show 0 < d by omega)
  have hm2 : p * (d - 1) % d ≠ 0 := fun q => by
    have h3 : d ∣ p * (d - 1) := Int.dvd_of_emod_eq_zero q
    have h4 : d ∣ p := by
      have h5 : d ∣ p * d - p * (d - 1) := Int.dvd_sub (Int.dvd_mul_left _ _) h3
      have h6 : p * d - p * (d - 1) = p := by rw [Int.mul_sub, Int.mul_one]; omega
      rwa [h6] at h5
    exact hnd h4
  generalize hk : p * (d - 1) / d = k at *
  generalize hmm : p * (d - 1) % d = r at *
  have hd1 : d - 1 ≠ 0 := by omega
  obtain ⟨z1, z2⟩ := divInt_le (k + 1) (d - 1) hd1
  have em := divInt_mul (n := k + 1) hd1
  have e1 := num_den x; have e2 := num_den y
  rw [← hdd] at e1
  rw [← hd, ← hdd] at e2
  refine ⟨Rat.divInt (k + 1) (d - 1), ?_, ?_, ?_⟩
  · generalize Rat.divInt (k + 1) (d - 1) = z at *
    have h3 : (p * (d - 1) : Int) ≤ (k + 1) * d := by rw [Int.add_mul, Int.one_mul, Int.mul_comm k d]; omega
    have h4 : ((p * (d - 1) : Int) : Rat) ≤ (((k + 1) * d : Int) : Rat) := by exact_mod_cast h3
    have dp : (0 : Rat) < (d : Rat) := by exact_mod_cast (show (0 : Int) < d by omega)
    have dp1 : (0 : Rat) < ((d - 1 : Int) : Rat) := by exact_mod_cast (show (0 : Int) < d - 1 by omega)
    rw [Rat.intCast_mul, Rat.intCast_mul, ← em] at h4
    rw [hp] at e1
    rw [← e1] at h4
    by_cases c : x ≤ z
    · exact c
    · have : 0 < (x - z) * ((d : Rat) * ((d - 1 : Int) : Rat)) := Rat.mul_pos (by grind) (Rat.mul_pos dp dp1)
      grind
  · generalize Rat.divInt (k + 1) (d - 1) = z at *
    have h2 : (p + 1) * (d - 1) ≤ p2 * (d - 1) := Int.mul_le_mul_of_nonneg_right hxy (by omega)
    have h3 : ((k + 1) * d : Int) ≤ p2 * (d - 1) := by
      rw [Int.add_mul, Int.one_mul] at h2
      rw [Int.add_mul, Int.one_mul, Int.mul_comm k d]; omega
    have h4 : (((k + 1) * d : Int) : Rat) ≤ ((p2 * (d - 1) : Int) : Rat) := by exact_mod_cast h3
    have dp : (0 : Rat) < (d : Rat) := by exact_mod_cast (show (0 : Int) < d by omega)
    have dp1 : (0 : Rat) < ((d - 1 : Int) : Rat) := by exact_mod_cast (show (0 : Int) < d - 1 by omega)
    rw [Rat.intCast_mul, Rat.intCast_mul, ← em] at h4
    rw [hq] at e2
    rw [← e2] at h4
    by_cases c : z ≤ y
    · exact c
    · have : 0 < (z - y) * ((d : Rat) * ((d - 1 : Int) : Rat)) := Rat.mul_pos (by grind) (Rat.mul_pos dp dp1)
      grind
  · omega
/-- There is but one simplest fraction. -/
theorem Simp.uniq {I : Rat → Prop} (hI : ∀ u v w, I u → I w → u ≤ v → v ≤ w → I v) {x y : Rat} (hx : Simp I x) (hy : Simp I y) : x = y := by
  have hd : x.den = y.den := Nat.le_antisymm (hx.2.1 y hy.1) (hy.2.1 x hx.1)
  by_cases h1 : x.den = 1
  · have a1 := hx.2.2 h1 y hy.1 (by omega)
    have a2 := hy.2.2 (by omega) x hx.1 h1
    have e1 := den1 h1; have e2 := den1 (x := y) (by omega)
    rcases (show x.num = y.num ∨ x.num = -y.num by omega) with q | q
    · rw [e1, e2, q]
    · have z0 : I 0 := by
        rcases Int.le_total 0 x.num with c | c
        · have c1 : (0 : Rat) ≤ x := Rat.num_nonneg.1 c
          have c2 : y ≤ 0 := by have : (0 : Rat) ≤ -y := Rat.num_nonneg.1 (by rw [Rat.neg_num]; omega); grind
          exact hI y 0 x hy.1 hx.1 c2 c1
        · have c1 : x ≤ 0 := by have : (0 : Rat) ≤ -x := Rat.num_nonneg.1 (by rw [Rat.neg_num]; omega); grind
          have c2 : (0 : Rat) ≤ y := Rat.num_nonneg.1 (by omega)
          exact hI x 0 y hx.1 hy.1 c1 c2
      have b1 := hx.2.2 h1 0 z0 rfl
      have b2 : x.num = 0 := by have : (0 : Rat).num = 0 := rfl; omega
      rw [e1, e2, b2, show y.num = 0 by omega]
  · rcases Classical.em (x = y) with c | c
    · exact c
    · exfalso
      rcases Classical.em (x < y) with q | q
      · obtain ⟨z, z1, z2, z3⟩ := between_den q hd h1
        have := hx.2.1 z (hI x z y hx.1 hy.1 z1 z2); omega
      · obtain ⟨z, z1, z2, z3⟩ := between_den (x := y) (y := x) (by grind) hd.symm (by omega)
        have := hy.2.1 z (hI y z x hy.1 hx.1 z1 z2); omega
/-- The parts of an integer plus the inverse of a positive number. -/
theorem inv_parts {w : Rat} (hw : 0 < w) (n : Int) : ((n : Rat) + 1 / w).num = n * w.num + w.den ∧ (((n : Rat) + 1 / w).den : Int) = w.num := by
  have hn : 0 < w.num := num_pos_iff.2 hw
  have e : (n : Rat) + 1 / w = Rat.divInt (n * w.num + w.den) w.num := by
    refine eq_divInt (by omega) ?_
    have h1 := den_mul w
    have h2 : 1 / w * w = 1 := Rat.div_mul_cancel (by grind)
    rw [Rat.intCast_add, Rat.intCast_mul, Rat.intCast_natCast, ← h1]
    generalize 1 / w = i at *
    have : ((n : Rat) + i) * (w * w.den) = n * (w * w.den) + (i * w) * w.den := by grind
    rw [this, h2]; grind
  obtain ⟨a1, a2⟩ := divInt_num (n := n * w.num + w.den) hn
  have hg : Nat.gcd (n * w.num + w.den).natAbs w.num.natAbs = 1 := by
    show Int.gcd (n * w.num + w.den) w.num = 1
    rw [Int.gcd_mul_right_add_left]
    show Nat.gcd (w.den : Int).natAbs w.num.natAbs = 1
    rw [Int.natAbs_natCast, Nat.gcd_comm]; exact w.reduced
  rw [e, a1, a2, hg]
  exact ⟨by simp, by simp⟩
/-- One step of a continued fraction. -/
theorem SimpP.den_step {I J : Rat → Prop} {n : Int} {y : Rat} (hJ : ∀ w, 0 < w → (J w ↔ I ((n : Rat) + 1 / w))) (hI : ∀ z, I z → (n : Rat) < z) (hy0 : 0 < y) (h : SimpP J y) : I ((n : Rat) + 1 / y) ∧
    ∀ z, I z → ((n : Rat) + 1 / y).den ≤ z.den ∧ (0 ≤ n → ((n : Rat) + 1 / y).num ≤ z.num) := by
  refine ⟨(hJ y hy0).1 h.1, fun z hz => ?_⟩
  have hzn := hI z hz
  have hw0 : 0 < 1 / (z - n) := div_pos (by decide) (by grind)
  have e : (n : Rat) + 1 / (1 / (z - n)) = z := by
    have h1 : 1 / (z - n) * (z - n) = 1 := Rat.div_mul_cancel (by grind)
    have h2 : 1 / (1 / (z - n)) * (1 / (z - n)) = 1 := Rat.div_mul_cancel (by grind)
    generalize 1 / (z - n) = i at *
    generalize 1 / i = j at *
    have : j = z - n := by have : j = j * (i * (z - n)) := by rw [h1]; grind
                           rw [this]; have : j * (i * (z - n)) = (j * i) * (z - n) := by grind
                           rw [this, h2]; grind
    grind
  obtain ⟨p1, p2⟩ := inv_parts hw0 n
  obtain ⟨y1, y2⟩ := inv_parts hy0 n
  rw [e] at p1 p2
  obtain ⟨m1, m2⟩ := h.2 (1 / (z - n)) ((hJ _ hw0).2 (by rw [e]; exact hz))
  refine ⟨by omega, fun hn => ?_⟩
  rw [p1, y1]
  have := Int.mul_le_mul_of_nonneg_left m1 hn
  omega
/-- The denominators grow less. -/
theorem step_den {n : Int} {z : Rat} (h : (n : Rat) < z) (h' : z < (n : Rat) + 1) : 0 < 1 / (z - n) ∧ (n : Rat) + 1 / (1 / (z - n)) = z ∧ (1 / (z - n)).den < z.den ∧ (1 / (z - n)).num = z.den := by
  have hw0 : 0 < 1 / (z - n) := div_pos (by decide) (by grind)
  have e : (n : Rat) + 1 / (1 / (z - n)) = z := by
    have h1 : 1 / (z - n) * (z - n) = 1 := Rat.div_mul_cancel (by grind)
    have h2 : 1 / (1 / (z - n)) * (1 / (z - n)) = 1 := Rat.div_mul_cancel (by grind)
    generalize 1 / (z - n) = i at *
    generalize 1 / i = j at *
    have : j = z - n := by have : j = j * (i * (z - n)) := by rw [h1]; grind
                           rw [this]; have : j * (i * (z - n)) = (j * i) * (z - n) := by grind
                           rw [this, h2]; grind
    grind
  obtain ⟨p1, p2⟩ := inv_parts hw0 n
  rw [e] at p1 p2
  have h3 : ¬ ((n + 1 : Int) : Rat) ≤ z := Rat.not_le.2 (by rw [Rat.intCast_add, ic1]; exact h')
  rw [le_iff_num] at h3
  have h4 : ((n + 1 : Int) : Rat).num = n + 1 := rfl
  have h5 : (((n + 1 : Int) : Rat).den : Int) = 1 := rfl
  rw [h4, h5] at h3
  refine ⟨hw0, e, ?_, by omega⟩
  rw [p1, ← p2, Int.add_mul, Int.one_mul] at h3
  omega
/-- The next integer is the simplest number above one that is not below. -/
theorem SimpP.next {I : Rat → Prop} {n : Int} (h : I ((n + 1 : Int) : Rat)) (hn : 0 ≤ n) (hI : ∀ z, I z → (n : Rat) < z) : SimpP I ((n + 1 : Int) : Rat) := by
  refine ⟨h, fun z hz => ?_⟩
  have h1 := hI z hz
  have h2 : ¬ z ≤ (n : Rat) := Rat.not_le.2 h1
  rw [le_iff_num] at h2
  have h3 : ((n : Int) : Rat).num = n := rfl
  have h4 : (((n : Int) : Rat).den : Int) = 1 := rfl
  rw [h3, h4] at h2
  have hd := z.den_pos
  have h5 : n * 1 ≤ n * (z.den : Int) := Int.mul_le_mul_of_nonneg_left (by omega) hn
  exact ⟨by show n + 1 ≤ z.num; omega, hd⟩
end Go.PL

set_option linter.unusedSimpArgs false
set_option linter.unusedVariables false
namespace Go.PL
open Go.RL
/-- The integers behind a root: X x x + Y x + Z = 0, and how large they are. -/
def Fit (K : Int) (d : Nat) (A B c : Rat) : Prop := ∃ X Y Z β R : Int, X ≠ 0 ∧ 2 * (X : Rat) * A = -(Y : Rat) ∧ (X : Rat) * (A * A - B * B * c) = (Z : Rat) ∧ (X : Rat) * B = (β : Rat) ∧
  (X.natAbs : Int) + d * R ≤ K ∧ (Y.natAbs : Int) ≤ 3 * K ∧ (β.natAbs : Int) ≤ K ∧ 0 ≤ R ∧ 0 ≤ sgn (Re.of (R : Rat) - Re.of (2 * (β : Rat)) * rt c) ∧ 0 ≤ sgn (Re.of (R : Rat) + Re.of (2 * (β : Rat)) * rt c)
theorem Fit.mono {K : Int} {d d' : Nat} {A B c : Rat} (h : Fit K d A B c) (hd : d' ≤ d) : Fit K d' A B c := by
  obtain ⟨X, Y, Z, β, R, h1, h2, h3, h4, h5, h6, h7, h8, h9⟩ := h
  refine ⟨X, Y, Z, β, R, h1, h2, h3, h4, ?_, h6, h7, h8, h9⟩
  have := Int.mul_le_mul_of_nonneg_right (show (d' : Int) ≤ d by omega) h8
  omega
theorem Fit.monoK {K K' : Int} {d : Nat} {A B c : Rat} (h : Fit K d A B c) (hd : K ≤ K') : Fit K' d A B c := by
  obtain ⟨X, Y, Z, β, R, h1, h2, h3, h4, h5, h6, h7, h8, h9⟩ := h
  exact ⟨X, Y, Z, β, R, h1, h2, h3, h4, by omega, by omega, by omega, h8, h9⟩
theorem Fit.nn {K : Int} {d : Nat} {A B c : Rat} (h : Fit K d A B c) : 0 ≤ K := by
  obtain ⟨X, Y, Z, β, R, h1, h2, h3, h4, h5, h6, h7, h8, h9⟩ := h
  omega
theorem of_le {p q : Rat} (h : 0 ≤ sgn (Re.of q - Re.of p)) : p ≤ q := by rw [← Re.of_sub, nn_of] at h; grind
/-- The inverse of a root's fraction part. -/
theorem Fit.step {K : Int} {d : Nat} {A B c : Rat} (h : Fit K (d + 1) A B c) (hc : 0 ≤ c) (n : Int) (t0 : 0 ≤ sgn (v2 (A - n) B c)) (t1 : 0 ≤ sgn (Re.of 1 - v2 (A - n) B c)) {N : Rat} (hN : N = (A - n) * (A - n) - B * B * c) (hN0 : N ≠ 0) :
    Fit K d ((A - n) * (1 / N)) (-B * (1 / N)) (rC (-B * (1 / N)) c) := by
  obtain ⟨X, Y, Z, β, R, h1, h2, h3, h4, h5, h6, h7, h8, h9, h10⟩ := h
  have hi : 1 / N * N = 1 := Rat.div_mul_cancel hN0
  generalize 1 / N = i at *
  have eX : ((X * n * n + Y * n + Z : Int) : Rat) = X * N := by
    rw [Rat.intCast_add, Rat.intCast_add, Rat.intCast_mul, Rat.intCast_mul, Rat.intCast_mul, ← h3, hN]
    have : (Y : Rat) = -(2 * (X : Rat) * A) := by rw [h2, Rat.neg_neg]
    rw [this]; grind
  have eY : ((2 * n * X + Y : Int) : Rat) = -(2 * (X : Rat) * (A - n)) := by
    have e2 : ((2 : Int) : Rat) = 2 := rfl
    rw [Rat.intCast_add, Rat.intCast_mul, Rat.intCast_mul, e2]
    have : (Y : Rat) = -(2 * (X : Rat) * A) := by rw [h2, Rat.neg_neg]
    rw [this]; grind
  have hX0 : (X : Rat) ≠ 0 := cast_ne h1
  obtain ⟨g1, g2⟩ := natAbs_ge X
  have g0 := natAbs_nn X
  have r0 : (0 : Rat) ≤ (R : Rat) := by exact_mod_cast h8
  have hnull : null (Re.of (X * (B * B)) * (rt c * rt c - Re.of c)) := null_mul' _ (rt_sq hc)
  have t2 : 0 ≤ sgn (Re.of 1 + v2 (A - n) B c) := nn_add (nn_of.2 (by decide)) t0
  have b4 : (β : Rat) = X * B := h4.symm
  have hXb : ((X * n * n + Y * n + Z).natAbs : Int) ≤ X.natAbs + R := by
    have u1 : X * n * n + Y * n + Z ≤ X.natAbs + R := by
      have : ((X * n * n + Y * n + Z : Int) : Rat) ≤ ((X.natAbs + R : Int) : Rat) := by
        refine of_le (nn_null (z := -(Re.of (X * (B * B)) * (rt c * rt c - Re.of c))) (null_neg hnull) (fun m => ?_)
          (nn_add (nn_add (nn_mul (nn_of.2 g0) (nn_mul t1 t2)) (nn_mul (nn_of.2 (show 0 ≤ ((X.natAbs : Int) : Rat) - X by grind)) (nn_mul t0 t0))) (nn_add (nn_mul (nn_of.2 r0) t1) (nn_mul h10 t0))))
        rw [eX, hN, b4]
        simp only [v2, Re.add_s, Re.sub_s, Re.mul_s, Re.of_s, Re.neg_s, Rat.intCast_add]
        grind
      exact_mod_cast this
    have u2 : -(X * n * n + Y * n + Z) ≤ X.natAbs + R := by
      have : ((-(X * n * n + Y * n + Z) : Int) : Rat) ≤ ((X.natAbs + R : Int) : Rat) := by
        refine of_le (nn_null (z := Re.of (X * (B * B)) * (rt c * rt c - Re.of c)) hnull (fun m => ?_)
          (nn_add (nn_add (nn_mul (nn_of.2 g0) (nn_mul t1 t2)) (nn_mul (nn_of.2 (show 0 ≤ ((X.natAbs : Int) : Rat) + X by grind)) (nn_mul t0 t0))) (nn_add (nn_mul (nn_of.2 r0) t1) (nn_mul h9 t0))))
        rw [Rat.intCast_neg, eX, hN, b4]
        simp only [v2, Re.add_s, Re.sub_s, Re.mul_s, Re.of_s, Re.neg_s, Rat.intCast_add]
        grind
      exact_mod_cast this
    omega
  have hYb : ((2 * n * X + Y).natAbs : Int) ≤ 2 * X.natAbs + R := by
    have e2 : ((2 : Int) : Rat) = 2 := rfl
    have u1 : 2 * n * X + Y ≤ 2 * X.natAbs + R := by
      have : ((2 * n * X + Y : Int) : Rat) ≤ ((2 * X.natAbs + R : Int) : Rat) := by
        refine of_le (nn_eq (fun m => ?_) (nn_add (nn_mul (nn_of.2 (show (0 : Rat) ≤ 2 * ((X.natAbs : Int) : Rat) by grind)) t1) (nn_add (nn_mul (nn_of.2 (show 0 ≤ 2 * (((X.natAbs : Int) : Rat) + X) by grind)) t0) h9)))
        rw [eY, b4]
        simp only [v2, Re.add_s, Re.sub_s, Re.mul_s, Re.of_s, Re.neg_s, Rat.intCast_add, Rat.intCast_mul, e2]
        grind
      exact_mod_cast this
    have u2 : -(2 * n * X + Y) ≤ 2 * X.natAbs + R := by
      have : ((-(2 * n * X + Y) : Int) : Rat) ≤ ((2 * X.natAbs + R : Int) : Rat) := by
        refine of_le (nn_eq (fun m => ?_) (nn_add (nn_mul (nn_of.2 (show (0 : Rat) ≤ 2 * ((X.natAbs : Int) : Rat) by grind)) t1) (nn_add (nn_mul (nn_of.2 (show 0 ≤ 2 * (((X.natAbs : Int) : Rat) - X) by grind)) t0) h10)))
        rw [Rat.intCast_neg, eY, b4]
        simp only [v2, Re.add_s, Re.sub_s, Re.mul_s, Re.of_s, Re.neg_s, Rat.intCast_add, Rat.intCast_mul, e2]
        grind
      exact_mod_cast this
    omega
  have hrc : ∀ p : Rat, (-B * i) * (-B * i) * rC (-B * i) c = (-B * i) * (-B * i) * c := by
    intro p
    by_cases q : -B * i = 0
    · rw [q]; grind
    · rw [rC_n q]
  have hRc : ∀ s : Rat, 0 ≤ sgn (Re.of (R : Rat) + Re.of (s * (β : Rat)) * rt c) → 0 ≤ sgn (Re.of (R : Rat) + Re.of (s * (β : Rat)) * rt (rC (-B * i) c)) := by
    intro s hs
    by_cases q : -B * i = 0
    · have hB : B = 0 := by
        rcases Rat.mul_eq_zero.1 q with q | q
        · grind
        · rw [q] at hi; grind
      rw [hB, Rat.mul_zero] at b4
      refine nn_eq (fun m => ?_) (nn_of.2 r0)
      rw [b4]; simp only [Re.add_s, Re.mul_s, Re.of_s]; grind
    · rw [rC_n q]; exact hs
  have hd : ((d + 1 : Nat) : Int) * R = d * R + R := by rw [Int.natCast_add, Int.add_mul]; simp
  have hdn : 0 ≤ (d : Int) * R := Int.mul_nonneg (by omega) h8
  rw [hd] at h5
  refine ⟨X * n * n + Y * n + Z, 2 * n * X + Y, X, -β, R, ?_, ?_, ?_, ?_, ?_, ?_, by omega, h8, ?_, ?_⟩
  · intro q
    rw [q] at eX
    have : (X : Rat) * N = 0 := eX.symm
    rcases Rat.mul_eq_zero.1 this with q | q <;> contradiction
  · rw [eX, eY]; grind
  · rw [eX, hrc 0]
    have : (X : Rat) * N * ((A - n) * i * ((A - n) * i) - -B * i * (-B * i) * c) = X * (N * i) * (i * ((A - n) * (A - n) - B * B * c)) := by grind
    rw [this, ← hN, hi, Rat.mul_comm N i, hi]; grind
  · rw [eX, Rat.intCast_neg, b4]; grind
  · omega
  · omega
  · have := hRc 2 h10
    refine nn_eq (fun m => ?_) this
    simp only [Re.add_s, Re.sub_s, Re.mul_s, Re.of_s, Rat.intCast_neg]; grind
  · have h9' : 0 ≤ sgn (Re.of (R : Rat) + Re.of (-2 * (β : Rat)) * rt c) := nn_eq (fun m => by simp only [Re.add_s, Re.sub_s, Re.mul_s, Re.of_s]; grind) h9
    refine nn_eq (fun m => ?_) (hRc (-2) h9')
    simp only [Re.add_s, Re.sub_s, Re.mul_s, Re.of_s, Rat.intCast_neg]; grind
/-- The sizes. -/
theorem Fit.size {K : Int} {d k : Nat} {A B c : Rat} (h : Fit K d A B c) (hK : SzI K k) : SzR A (k + 1) ∧ SzR B (k + 1) := by
  obtain ⟨X, Y, Z, β, R, h1, h2, h3, h4, h5, h6, h7, h8, _⟩ := h
  have hd : 0 ≤ (d : Int) * R := Int.mul_nonneg (by omega) h8
  have hK' : SzI (3 * K) (k + 1) := by
    have : SzI (3 : Int) 1 := szi_lit (by decide)
    exact (inferInstance : SzI (3 * K) (1 + k)).mono (by omega)
  constructor
  · have e : A = Rat.divInt (-Y) (2 * X) := eq_divInt (by omega) (by
      have e2 : ((2 : Int) : Rat) = 2 := rfl
      rw [Rat.intCast_mul, Rat.intCast_neg, e2, ← h2, Rat.mul_comm])
    rw [e]
    exact (divInt_size (k := k + 1) (l := k + 1) (h := hK'.le_of (by omega)) (h' := hK'.le_of (by omega)) (by omega)).mono (by omega)
  · have e : B = Rat.divInt β X := eq_divInt h1 (by rw [← h4, Rat.mul_comm])
    rw [e]
    exact (divInt_size (k := k + 1) (l := k + 1) (h := hK'.le_of (by omega)) (h' := hK'.le_of (by omega)) h1).mono (by omega)
/-- The start. -/
theorem Fit.start (A B c : Rat) (hc : 0 ≤ c) {k : Nat} [SzR A k] [SzR B k] [SzR c k] (d kd : Nat) (hd : SzI (d : Int) kd) : ∃ K : Int, SzI K (7 * k + kd + 10) ∧ Fit K d A B c := by
  obtain ⟨q, hq⟩ : ∃ q : Int, q = A.den := ⟨_, rfl⟩
  obtain ⟨s, hs⟩ : ∃ s : Int, s = B.den := ⟨_, rfl⟩
  obtain ⟨v, hv⟩ : ∃ v : Int, v = c.den := ⟨_, rfl⟩
  have iq : SzI q k := by rw [hq]; infer_instance
  have is : SzI s k := by rw [hs]; infer_instance
  have iv : SzI v k := by rw [hv]; infer_instance
  have q0 : 0 < q := by have := A.den_pos; omega
  have s0 : 0 < s := by have := B.den_pos; omega
  have v0 : 0 < v := by have := c.den_pos; omega
  have eA := num_den A; have eB := num_den B; have eC := num_den c
  rw [← hq] at eA; rw [← hs] at eB; rw [← hv] at eC
  have sX : SzI (q * q * (s * s) * v) (5 * k) := (inferInstance : SzI _ _).mono (by omega)
  have sY : SzI (-(2 * (A.num * q * (s * s) * v))) (5 * k + 1) := (inferInstance : SzI _ _).mono (by omega)
  have sβ : SzI (q * q * s * B.num * v) (5 * k) := (inferInstance : SzI _ _).mono (by omega)
  have sc : SzI (c.num.natAbs + 1 : Int) (k + 1 + 1) := (inferInstance : SzI _ (max k 1 + 1)).mono (by omega)
  have sR : SzI (2 * ((q * q * s * B.num * v).natAbs * (c.num.natAbs + 1 : Int))) (6 * k + 3) := (inferInstance : SzI _ _).mono (by omega)
  have hR0 : 0 ≤ ((q * q * s * B.num * v).natAbs : Int) * (c.num.natAbs + 1 : Int) := Int.mul_nonneg (by omega) (by omega)
  have hphi := part_hi (W := ((q * q * s * B.num * v : Int) : Rat)) hc
  have hplo := part_hi (W := ((-(q * q * s * B.num * v) : Int) : Rat)) hc
  have en : (((q * q * s * B.num * v : Int) : Rat)).num = q * q * s * B.num * v := rfl
  have en' : (((-(q * q * s * B.num * v) : Int) : Rat)).num = -(q * q * s * B.num * v) := rfl
  rw [en] at hphi
  rw [en', Int.natAbs_neg] at hplo
  have eX : ((q * q * (s * s) * v : Int) : Rat) = (q : Rat) * q * ((s : Rat) * s) * v := by simp only [Rat.intCast_mul]
  have eβ : ((q * q * s * B.num * v : Int) : Rat) = (q : Rat) * q * s * (B * s) * v := by simp only [Rat.intCast_mul, ← eB]
  have e2 : ((2 : Int) : Rat) = 2 := rfl
  generalize hr : ((q * q * s * B.num * v).natAbs : Int) * (c.num.natAbs + 1 : Int) = r at *
  have hpos : 0 < q * q * (s * s) * v := Int.mul_pos (Int.mul_pos (Int.mul_pos q0 q0) (Int.mul_pos s0 s0)) v0
  refine ⟨(((q * q * (s * s) * v).natAbs : Int) + (-(2 * (A.num * q * (s * s) * v))).natAbs) + ((q * q * s * B.num * v).natAbs : Int) + d * (2 * r), ?_, q * q * (s * s) * v, -(2 * (A.num * q * (s * s) * v)), A.num * A.num * (s * s) * v - q * q * (B.num * B.num) * c.num, q * q * s * B.num * v, 2 * r, by omega, ?_, ?_, ?_, ?_, ?_, ?_, by omega, ?_, ?_⟩
  · exact (inferInstance : SzI _ _).mono (by omega)
  · rw [eX, Rat.intCast_neg, Rat.intCast_mul, e2]; simp only [Rat.intCast_mul, ← eA]; grind
  · rw [eX]; simp only [Rat.intCast_sub, Rat.intCast_mul, ← eA, ← eB, ← eC]; grind
  · rw [eX, eβ]; grind
  · have : 0 ≤ (d : Int) * (2 * r) := Int.mul_nonneg (by omega) (by omega)
    omega
  · have : 0 ≤ (d : Int) * (2 * r) := Int.mul_nonneg (by omega) (by omega)
    omega
  · have : 0 ≤ (d : Int) * (2 * r) := Int.mul_nonneg (by omega) (by omega)
    omega
  · refine nn_eq (fun m => ?_) (nn_mul (nn_of.2 (show (0 : Rat) ≤ 2 by decide)) hphi)
    simp only [Re.sub_s, Re.mul_s, Re.of_s, Rat.intCast_mul, e2]; grind
  · refine nn_eq (fun m => ?_) (nn_mul (nn_of.2 (show (0 : Rat) ≤ 2 by decide)) hplo)
    simp only [Re.sub_s, Re.add_s, Re.mul_s, Re.of_s, Rat.intCast_mul, Rat.intCast_neg, e2]; grind
end Go.PL

set_option linter.unusedSimpArgs false
set_option linter.unusedVariables false
namespace Go.PL
open Go.RL
instance SzR.ofInt {n : Int} {k : Nat} [h : SzI n k] : SzR (n : Rat) (k + 1) := SzR.int (h.mono (by omega)) (by omega)
theorem cmpR_rat {a b c n : Rat} (hc : 0 ≤ c) : cmpR a b c n 0 0 = two (a - n) b c := by
  rw [cmpR_eq hc Rat.le_refl, two_eq hc, v2_shift, v2_b0]
/-- root.Sign -/
def rsS (a b c : Rat) : Int := if sgnQ b = 0 ∨ sgnQ a = sgnQ b then sgnQ a else if sgnQ a = 0 then sgnQ b else sgnQ a * sgnQ (a * a - b * b * c)
theorem rsS_1 {a b c : Rat} (h : b = 0) : rsS a b c = sgnQ a := if_pos (.inl (sgnQ_zero h))
theorem rsS_2 {a b c : Rat} (h : sgnQ a = sgnQ b) : rsS a b c = sgnQ a := if_pos (.inr h)
theorem rsS_3 {a b c : Rat} (h : ¬ b = 0) (h' : ¬ sgnQ a = sgnQ b) (ha : a = 0) : rsS a b c = sgnQ b := by
  unfold rsS; rw [if_neg (by rw [sgnQ_eqz]; rintro (q | q) <;> contradiction), if_pos (sgnQ_zero ha)]
theorem rsS_4 {a b c : Rat} (h : ¬ b = 0) (h' : ¬ sgnQ a = sgnQ b) (ha : ¬ a = 0) : rsS a b c = sgnQ a * sgnQ (a * a - b * b * c) := by
  unfold rsS; rw [if_neg (by rw [sgnQ_eqz]; rintro (q | q) <;> contradiction), if_neg (by rw [sgnQ_eqz]; exact ha)]
theorem norm_ne {a b c : Rat} (h : Rdc b c) (hv : sgn (v2 a b c) ≠ 0) : a * a - b * b * c ≠ 0 := by
  intro q
  by_cases hb : b = 0
  · have ha : a * a = 0 := by rw [hb] at q; grind
    have ha : a = 0 := by rcases Rat.mul_eq_zero.1 ha with q | q <;> exact q
    rw [ha, hb, v2_b0, sgn_of] at hv
    exact hv (sgnQ_zero rfl)
  · have h1 := irr (u := a) hb h.1 (h.2.resolve_left hb)
    have h2 := v2_conj (V := a) (W := b) h.1
    rw [q] at h2
    have h3 : null (v2 a b c * v2 a (-b) c) := by
      have e : v2 a b c * v2 a (-b) c = v2 a b c * v2 a (-b) c - Re.of 0 := Re.ext fun n => by simp only [Re.sub_s, Re.of_s]; grind
      rw [e]; exact h2
    have h4 := sgn_null h3
    rw [sgn_mul] at h4
    rcases Int.mul_eq_zero.1 h4 with k | k
    · exact h1 k
    · exact irr (u := a) (b := -b) (by grind) h.1 (h.2.resolve_left hb) k
theorem rsS_ne {a b c : Rat} (h : Rdc b c) (hv : sgn (v2 a b c) ≠ 0) : rsS a b c ≠ 0 := by
  have hn := norm_ne h hv
  unfold rsS
  split
  · rename_i q
    intro ha
    have hb : b = 0 := by
      rcases q with q | q
      · rw [sgnQ_eqz] at q; exact q
      · rw [ha] at q; rw [← sgnQ_eqz]; exact q.symm
    rw [sgnQ_eqz] at ha
    rw [ha, hb, v2_b0, sgn_of] at hv
    exact hv (sgnQ_zero rfl)
  · rename_i q
    split
    · intro k; exact q (.inl k)
    · rename_i k
      intro m
      rcases Int.mul_eq_zero.1 m with m | m
      · exact k m
      · rw [sgnQ_eqz] at m; exact hn m
theorem rsS_bd (a b c : Rat) : -1 ≤ rsS a b c ∧ rsS a b c ≤ 1 := by
  unfold rsS
  split
  · exact sgnQ_bd a
  · split
    · exact sgnQ_bd b
    · exact mul_bd (sgnQ_bd a) (sgnQ_bd _)
end Go.PL

set_option linter.unusedSimpArgs false
set_option linter.unusedVariables false
set_option maxRecDepth 20000
namespace Go.Proofs.YtdojhoegildiaaaGreat
open Go Go.PL Go.RL
set_option maxHeartbeats 4000000 in
theorem c_root_FromRat (a : Rat) :
    Ret Tryz.prog 101 [.a (ratC a)] (.e (.a (ratC (a) ++ (ratC (0) ++ ratC (0))))) := by
  refine ret_of_body (md := {}) Tryz.func101 (by kernel_rfl) rfl ?_
  simp only [Tryz.f101, List.map_cons, List.map_nil, List.length_cons, List.length_nil, Nat.zero_add, Nat.reduceAdd, Nat.reduceSub, List.reduceReplicate, List.cons_append, List.nil_append]
  refine pwx_sr 2 [] (by rfl) (fun K1 hK1 => ?_)
  simp (disch := omega) only [go_sem]
  refine hK1 _ ?_
  clear hK1 K1
  refine pwx_sd Tryz.mixed 0 [] (by rfl) [] (by kernel_rfl) (by simp) (fun K2 hK2 => ?_)
  refine rgnX_take 2 (fun K3 hK3 => ?_)
  simp (disch := omega) only [go_sem]
  refine ⟨_, c_root_zero, ?_⟩
  refine hK3 _ ?_
  refine rgnX_take 1 (fun K4 hK4 => ?_)
  simp (disch := omega) only [go_sem]
  refine ⟨_, c_root_zero, ?_⟩
  refine hK4 _ ?_
  simp (disch := omega) only [go_sem]
  refine hK2 _ ?_
  clear hK4 K4 hK3 K3 hK2 K2
  refine pwp_ret ?_
  refine ⟨Or.inr rfl, ?_⟩
  simp (disch := omega) only [go_sem]
  all_goals rfl
set_option maxHeartbeats 4000000 in
theorem c_root_Neg (a b c : Rat) {k l m : Nat} [SzR a k] [SzR b l] [SzR c m] (hk : k + l + m ≤ 30000) :
    Ret Tryz.prog 60 [.a (ratC (a) ++ (ratC (b) ++ ratC (c)))] (.e (.a (ratC (-a) ++ (ratC (-b) ++ ratC (c))))) := by
  refine ret_of_body (md := {}) Tryz.func60 (by kernel_rfl) rfl ?_
  simp only [Tryz.f60, List.map_cons, List.map_nil, List.length_cons, List.length_nil, Nat.zero_add, Nat.reduceAdd, Nat.reduceSub, List.reduceReplicate, List.cons_append, List.nil_append]
  refine pwx_sr 2 [] (by rfl) (fun K1 hK1 => ?_)
  simp (disch := omega) only [go_sem]
  refine hK1 _ ?_
  clear hK1 K1
  refine pwx_sd Tryz.mixed 0 [] (by rfl) [] (by kernel_rfl) (by simp) (fun K2 hK2 => ?_)
  refine rgnX_take 3 (fun K3 hK3 => ?_)
  simp (disch := omega) only [go_sem]
  refine ⟨_, c_rational_Neg _ (by omega), ?_⟩
  refine hK3 _ ?_
  refine rgnX_take 3 (fun K4 hK4 => ?_)
  simp (disch := omega) only [go_sem]
  refine ⟨_, c_rational_Neg _ (by omega), ?_⟩
  refine hK4 _ ?_
  simp (disch := omega) only [go_sem]
  refine hK2 _ ?_
  clear hK4 K4 hK3 K3 hK2 K2
  refine pwp_ret ?_
  refine ⟨Or.inr rfl, ?_⟩
  simp (disch := omega) only [go_sem]
  all_goals rfl
set_option maxHeartbeats 4000000 in
theorem c_root_norm (a b c : Rat) {k l m : Nat} [SzR a k] [SzR b l] [SzR c m] (hk : k + l + m ≤ 30000) :
    Ret Tryz.prog 132 [.a (ratC (a) ++ (ratC (b) ++ ratC (c)))] (.e (.a (ratC (a * a - b * b * c)))) := by
  refine ret_of_body (md := {}) Tryz.func132 (by kernel_rfl) rfl ?_
  simp only [Tryz.f132, List.map_cons, List.map_nil, List.length_cons, List.length_nil, Nat.zero_add, Nat.reduceAdd, Nat.reduceSub, List.reduceReplicate, List.cons_append, List.nil_append]
  refine pwx_sr 2 [] (by rfl) (fun K1 hK1 => ?_)
  simp (disch := omega) only [go_sem]
  refine hK1 _ ?_
  clear hK1 K1
  refine pwx_sd Tryz.mixed 0 [] (by rfl) [] (by kernel_rfl) (by simp) (fun K2 hK2 => ?_)
  refine rgnX_take 5 (fun K3 hK3 => ?_)
  simp (disch := omega) only [go_sem]
  refine ⟨_, c_rational_Mul _ _ (by omega), ?_⟩
  refine hK3 _ ?_
  refine rgnX_take 5 (fun K4 hK4 => ?_)
  simp (disch := omega) only [go_sem]
  refine ⟨_, c_rational_Mul _ _ (by omega), ?_⟩
  refine hK4 _ ?_
  refine rgnX_take 3 (fun K5 hK5 => ?_)
  simp (disch := omega) only [go_sem]
  refine ⟨_, c_rational_Mul _ _ (by omega), ?_⟩
  refine hK5 _ ?_
  refine rgnX_take 1 (fun K6 hK6 => ?_)
  simp (disch := omega) only [go_sem]
  refine ⟨_, c_rational_Sub _ _ (by omega), ?_⟩
  refine hK6 _ ?_
  simp (disch := omega) only [go_sem]
  refine hK2 _ ?_
  clear hK6 K6 hK5 K5 hK4 K4 hK3 K3 hK2 K2
  refine pwp_ret ?_
  refine ⟨Or.inr rfl, ?_⟩
  simp (disch := omega) only [go_sem]
  all_goals rfl
set_option maxHeartbeats 4000000 in
theorem c_root_Sign (a b c : Rat) {k l m : Nat} [SzR a k] [SzR b l] [SzR c m] (hk : k + l + m ≤ 30000) :
    Ret Tryz.prog 131 [.a (ratC (a) ++ (ratC (b) ++ ratC (c)))] (.e (.c (.int .i64 (rsS a b c)))) := by
  refine ret_of_body (md := {}) Tryz.func131 (by kernel_rfl) rfl ?_
  simp only [Tryz.f131, List.map_cons, List.map_nil, List.length_cons, List.length_nil, Nat.zero_add, Nat.reduceAdd, Nat.reduceSub, List.reduceReplicate, List.cons_append, List.nil_append]
  have b1 := sgnQ_bd a
  have b2 := mul_bd (sgnQ_bd a) (sgnQ_bd (a * a - b * b * c))
  refine pwx_sr 1 [] (by rfl) (fun K1 hK1 => ?_)
  simp (disch := omega) only [go_sem]
  refine hK1 _ ?_
  clear hK1 K1
  refine pwx_sd Tryz.mixed 0 [] (by rfl) [] (by kernel_rfl) (by simp) (fun K2 hK2 => ?_)
  refine rgnX_take 3 (fun K3 hK3 => ?_)
  simp (disch := omega) only [go_sem]
  refine ⟨_, c_rational_Sign _, ?_⟩
  refine hK3 _ ?_
  refine rgnX_take 3 (fun K4 hK4 => ?_)
  simp (disch := omega) only [go_sem]
  refine ⟨_, c_rational_Sign _, ?_⟩
  refine hK4 _ ?_
  simp (disch := omega) only [go_sem]
  refine hK2 _ ?_
  clear hK4 K4 hK3 K3 hK2 K2
  refine pwp_seq ?_
  refine pwp_block ?_
  by_cases h0 : b = 0
  · refine pwx_sr 0 [some 12, some 13, some 14, some 15, some 16, some 17, some 18, some 11] (by rfl) (fun K5 hK5 => ?_)
    simp (disch := omega) only [go_sem]
    refine hK5 _ ?_
    clear hK5 K5
    refine pwp_cond (b := true) (by rfl) (fun _ => ?_) (fun h => nomatch h)
    refine pwx_sr 0 [] (by rfl) (fun K6 hK6 => ?_)
    simp (disch := omega) only [go_sem]
    refine hK6 _ ?_
    clear hK6 K6
    refine pwp_ret ?_
    refine r_block ?_
    refine r_then ?_
    refine ⟨Or.inr rfl, ?_⟩
    simp (disch := omega) only [go_sem]
    all_goals first | exact rsS_1 h0 | exact rsS_2 (by assumption) | exact rsS_3 h0 (by assumption) (by assumption) | exact rsS_4 h0 (by assumption) (by assumption)
  · refine pwx_sr 0 [some 12, some 13, some 14, some 15, some 16, some 17, some 18, some 11] (by rfl) (fun K7 hK7 => ?_)
    simp (disch := omega) only [go_sem]
    refine hK7 _ ?_
    clear hK7 K7
    refine pwp_cond (b := _) (by rfl) (fun hb1 => ?_) (fun hb1 => ?_)
    · first | replace hb1 := of_decide_eq_true hb1 | replace hb1 := of_decide_eq_false hb1 | skip
      refine pwx_sr 0 [] (by rfl) (fun K8 hK8 => ?_)
      simp (disch := omega) only [go_sem]
      refine hK8 _ ?_
      clear hK8 K8
      refine pwp_ret ?_
      refine r_block ?_
      refine r_then ?_
      refine ⟨Or.inr rfl, ?_⟩
      simp (disch := omega) only [go_sem]
      all_goals first | exact rsS_1 h0 | exact rsS_2 (by assumption) | exact rsS_3 h0 (by assumption) (by assumption) | exact rsS_4 h0 (by assumption) (by assumption)
    · first | replace hb1 := of_decide_eq_true hb1 | replace hb1 := of_decide_eq_false hb1 | skip
      refine pwx_sr 0 [] (by rfl) (fun K9 hK9 => ?_)
      simp (disch := omega) only [go_sem]
      refine hK9 _ ?_
      clear hK9 K9
      refine pwp_cond (b := _) (by rfl) (fun hb2 => ?_) (fun hb2 => ?_)
      · first | replace hb2 := of_decide_eq_true hb2 | replace hb2 := of_decide_eq_false hb2 | skip
        refine pwx_sr 0 [] (by rfl) (fun K10 hK10 => ?_)
        simp (disch := omega) only [go_sem]
        refine hK10 _ ?_
        clear hK10 K10
        refine pwp_ret ?_
        refine r_block ?_
        refine r_then ?_
        refine ⟨Or.inr rfl, ?_⟩
        simp (disch := omega) only [go_sem]
        all_goals first | exact rsS_1 h0 | exact rsS_2 (by assumption) | exact rsS_3 h0 (by assumption) (by assumption) | exact rsS_4 h0 (by assumption) (by assumption)
      · first | replace hb2 := of_decide_eq_true hb2 | replace hb2 := of_decide_eq_false hb2 | skip
        refine pwp_skip ?_
        refine n_block ?_
        refine n_then ?_
        refine pwx_sr 0 [] (by rfl) (fun K11 hK11 => ?_)
        refine rgnX_take 3 (fun K12 hK12 => ?_)
        simp (disch := omega) only [go_sem]
        refine ⟨_, c_root_norm _ _ _ (by omega), ?_⟩
        refine hK12 _ ?_
        refine rgnX_take 1 (fun K13 hK13 => ?_)
        simp (disch := omega) only [go_sem]
        refine ⟨_, c_rational_Sign _, ?_⟩
        refine hK13 _ ?_
        simp (disch := omega) only [go_sem]
        refine hK11 _ ?_
        clear hK13 K13 hK12 K12 hK11 K11
        refine pwp_ret ?_
        refine ⟨Or.inr rfl, ?_⟩
        simp (disch := omega) only [go_sem]
        all_goals first | exact rsS_1 h0 | exact rsS_2 (by assumption) | exact rsS_3 h0 (by assumption) (by assumption) | exact rsS_4 h0 (by assumption) (by assumption)
set_option maxHeartbeats 4000000 in
theorem c_radical_less (a b c n : Rat) {k l : Nat} [SzR a k] [SzR n l] (hk : k + l ≤ 150000) :
    Ret Tryz.prog 106 [.a (ratC (a) ++ (ratC (b) ++ ratC (c))), .a (ratC n)] (.e (.a (ratC (a - n) ++ (ratC (b) ++ ratC (c))))) := by
  refine ret_of_body (md := {}) Tryz.func106 (by kernel_rfl) rfl ?_
  simp only [Tryz.f106, List.map_cons, List.map_nil, List.length_cons, List.length_nil, Nat.zero_add, Nat.reduceAdd, Nat.reduceSub, List.reduceReplicate, List.cons_append, List.nil_append]
  refine pwx_sr 3 [] (by rfl) (fun K1 hK1 => ?_)
  simp (disch := omega) only [go_sem]
  refine hK1 _ ?_
  clear hK1 K1
  refine pwx_sr 0 [] (by rfl) (fun K2 hK2 => ?_)
  refine rgnX_take 4 (fun K3 hK3 => ?_)
  simp (disch := omega) only [go_sem]
  refine ⟨_, c_rational_Sub _ _ (by omega), ?_⟩
  refine hK3 _ ?_
  simp (disch := omega) only [go_sem]
  refine hK2 _ ?_
  clear hK3 K3 hK2 K2
  refine pwx_sr 0 [] (by rfl) (fun K4 hK4 => ?_)
  simp (disch := omega) only [go_sem]
  refine hK4 _ ?_
  clear hK4 K4
  refine pwp_ret ?_
  refine ⟨Or.inr rfl, ?_⟩
  simp (disch := omega) only [go_sem]
  all_goals rfl
set_option maxHeartbeats 4000000 in
theorem c_radical_CmpRat (a b c n : Rat) {k l m o : Nat} [SzR a k] [SzR b l] [SzR c m] [SzR n o] (hk : k + l + m + o ≤ 1900) (hc : 0 ≤ c) :
    Ret Tryz.prog 57 [.a (ratC (a) ++ (ratC (b) ++ ratC (c))), .a (ratC n)] (.e (.c (.int .i64 (two (a - n) b c)))) := by
  refine ret_of_body (md := {}) Tryz.func57 (by kernel_rfl) rfl ?_
  simp only [Tryz.f57, List.map_cons, List.map_nil, List.length_cons, List.length_nil, Nat.zero_add, Nat.reduceAdd, Nat.reduceSub, List.reduceReplicate, List.cons_append, List.nil_append]
  have h0 : (0 : Rat) ≤ 0 := Rat.le_refl
  refine pwx_sr 2 [] (by rfl) (fun K1 hK1 => ?_)
  simp (disch := omega) only [go_sem]
  refine hK1 _ ?_
  clear hK1 K1
  refine pwx_sd Tryz.mixed 0 [] (by rfl) [] (by kernel_rfl) (by simp) (fun K2 hK2 => ?_)
  refine rgnX_take 3 (fun K3 hK3 => ?_)
  simp (disch := omega) only [go_sem]
  refine ⟨_, c_root_FromRat _, ?_⟩
  refine hK3 _ ?_
  refine rgnX_take 1 (fun K4 hK4 => ?_)
  simp (disch := omega) only [go_sem]
  refine ⟨_, c_radical_Cmp _ _ _ _ _ _ (by omega) (by assumption) (by assumption), ?_⟩
  refine hK4 _ ?_
  simp (disch := omega) only [go_sem]
  refine hK2 _ ?_
  clear hK4 K4 hK3 K3 hK2 K2
  refine pwp_ret ?_
  refine ⟨Or.inr rfl, ?_⟩
  simp (disch := omega) only [go_sem]
  all_goals rw [cmpR_rat hc]
set_option maxHeartbeats 4000000 in
theorem c_radical_Equal (a b c a' b' c' : Rat) {k l m k' l' m' : Nat} [SzR a k] [SzR b l] [SzR c m] [SzR a' k'] [SzR b' l'] [SzR c' m'] (hk : k + l + m + k' + l' + m' ≤ 1900) (hc : 0 ≤ c) (hc' : 0 ≤ c') :
    Ret Tryz.prog 37 [.a (ratC (a) ++ (ratC (b) ++ ratC (c))), .a (ratC (a') ++ (ratC (b') ++ ratC (c')))] (.e (.c (.bool (decide (cmpR a b c a' b' c' = 0))))) := by
  refine ret_of_body (md := {}) Tryz.func37 (by kernel_rfl) rfl ?_
  simp only [Tryz.f37, List.map_cons, List.map_nil, List.length_cons, List.length_nil, Nat.zero_add, Nat.reduceAdd, Nat.reduceSub, List.reduceReplicate, List.cons_append, List.nil_append]
  refine pwx_sr 2 [] (by rfl) (fun K1 hK1 => ?_)
  simp (disch := omega) only [go_sem]
  refine hK1 _ ?_
  clear hK1 K1
  refine pwx_sr 0 [] (by rfl) (fun K2 hK2 => ?_)
  refine rgnX_take 3 (fun K3 hK3 => ?_)
  simp (disch := omega) only [go_sem]
  refine ⟨_, c_radical_Cmp _ _ _ _ _ _ (by omega) (by assumption) (by assumption), ?_⟩
  refine hK3 _ ?_
  simp (disch := omega) only [go_sem]
  refine hK2 _ ?_
  clear hK3 K3 hK2 K2
  refine pwp_ret ?_
  refine ⟨Or.inr rfl, ?_⟩
  simp (disch := omega) only [go_sem]
  all_goals rfl
set_option maxHeartbeats 4000000 in
theorem c_root_Inv (a b c : Rat) {k l m : Nat} [SzR a k] [SzR b l] [SzR c m] (hk : k + l + m ≤ 5000) (hs : rsS a b c ≠ 0) (hn : a * a - b * b * c ≠ 0) :
    Ret Tryz.prog 105 [.a (ratC (a) ++ (ratC (b) ++ ratC (c)))] (.t [.a (ratC (a * (1 / ((a) * (a) - (b) * (b) * c))) ++ (ratC (-b * (1 / ((a) * (a) - (b) * (b) * c))) ++ ratC (rC (-b * (1 / ((a) * (a) - (b) * (b) * c))) c))), .c (.int .i64 0)]) := by
  refine ret_of_body (md := {}) Tryz.func105 (by kernel_rfl) rfl ?_
  simp only [Tryz.f105, List.map_cons, List.map_nil, List.length_cons, List.length_nil, Nat.zero_add, Nat.reduceAdd, Nat.reduceSub, List.reduceReplicate, List.cons_append, List.nil_append]
  refine pwx_sr 2 [] (by rfl) (fun K1 hK1 => ?_)
  simp (disch := omega) only [go_sem, nr_1]
  refine hK1 _ ?_
  clear hK1 K1
  refine pwp_seq ?_
  refine pwx_sr 0 [] (by rfl) (fun K2 hK2 => ?_)
  refine rgnX_take 2 (fun K3 hK3 => ?_)
  simp (disch := omega) only [go_sem, nr_1]
  refine ⟨_, c_root_Sign _ _ _ (by omega), ?_⟩
  refine hK3 _ ?_
  simp (disch := omega) only [go_sem, nr_1]
  refine hK2 _ ?_
  clear hK3 K3 hK2 K2
  refine pwp_cond (b := false) (by rfl) (fun h => nomatch h) (fun _ => ?_)
  refine pwp_skip ?_
  refine n_then ?_
  refine pwx_sd Tryz.mixed 1 [] (by rfl) [] (by kernel_rfl) (by simp) (fun K4 hK4 => ?_)
  refine rgnX_take 1 (fun K5 hK5 => ?_)
  simp (disch := omega) only [go_sem, nr_1]
  refine ⟨_, c_rational_FromInt64 _ (by omega) (by omega), ?_⟩
  refine hK5 _ ?_
  refine rgnX_take 2 (fun K6 hK6 => ?_)
  simp (disch := omega) only [go_sem, nr_1]
  refine ⟨_, c_root_norm _ _ _ (by omega), ?_⟩
  refine hK6 _ ?_
  refine rgnX_take 1 (fun K7 hK7 => ?_)
  simp (disch := omega) only [go_sem, nr_1]
  refine ⟨_, c_rational_Div _ _ (by omega) hn, ?_⟩
  refine hK7 _ ?_
  simp (disch := omega) only [go_sem, nr_1]
  refine hK4 _ ?_
  clear hK7 K7 hK6 K6 hK5 K5 hK4 K4
  refine pwp_seq ?_
  refine pwx_sr 0 [] (by rfl) (fun K8 hK8 => ?_)
  simp (disch := omega) only [go_sem, nr_1]
  refine hK8 _ ?_
  clear hK8 K8
  refine pwp_cond (b := false) (by rfl) (fun h => nomatch h) (fun _ => ?_)
  refine pwp_skip ?_
  refine n_then ?_
  refine pwx_sd Tryz.mixed 0 [] (by rfl) [] (by kernel_rfl) (by simp) (fun K9 hK9 => ?_)
  refine rgnX_take 5 (fun K10 hK10 => ?_)
  simp (disch := omega) only [go_sem, nr_1]
  refine ⟨_, c_rational_Neg _ (by omega), ?_⟩
  refine hK10 _ ?_
  refine rgnX_take 5 (fun K11 hK11 => ?_)
  simp (disch := omega) only [go_sem, nr_1]
  refine ⟨_, c_root_Scale _ _ _ _ (by omega), ?_⟩
  refine hK11 _ ?_
  simp (disch := omega) only [go_sem, nr_1]
  refine hK9 _ ?_
  clear hK11 K11 hK10 K10 hK9 K9
  refine pwp_ret ?_
  refine ⟨Or.inr rfl, ?_⟩
  simp (disch := omega) only [go_sem, nr_1]
  all_goals rfl
set_option maxHeartbeats 4000000 in
theorem c_swarfref05_CmpRat (a b c n : Rat) {k l m o : Nat} [SzR a k] [SzR b l] [SzR c m] [SzR n o] (hk : k + l + m + o ≤ 10000) :
    Ret Tryz.prog 26 [.a (ratC (a) ++ (ratC (b) ++ ratC (c))), .a (ratC n)] (.e (.c (.int .i64 (two (a - n) b c)))) := by
  refine ret_of_body (md := {}) Tryz.func26 (by kernel_rfl) rfl ?_
  simp only [Tryz.f26, List.map_cons, List.map_nil, List.length_cons, List.length_nil, Nat.zero_add, Nat.reduceAdd, Nat.reduceSub, List.reduceReplicate, List.cons_append, List.nil_append]
  refine pwx_sr 2 [] (by rfl) (fun K1 hK1 => ?_)
  simp (disch := omega) only [go_sem]
  refine hK1 _ ?_
  clear hK1 K1
  refine pwx_sd Tryz.mixed 0 [] (by rfl) [] (by kernel_rfl) (by simp) (fun K2 hK2 => ?_)
  refine rgnX_take 4 (fun K3 hK3 => ?_)
  simp (disch := omega) only [go_sem]
  refine ⟨_, c_swarfref02_Sub _ _ (by omega), ?_⟩
  refine hK3 _ ?_
  refine rgnX_take 5 (fun K4 hK4 => ?_)
  simp (disch := omega) only [go_sem]
  refine ⟨_, c_swarfref05_two _ _ _ (by omega), ?_⟩
  refine hK4 _ ?_
  simp (disch := omega) only [go_sem]
  refine hK2 _ ?_
  clear hK4 K4 hK3 K3 hK2 K2
  refine pwp_ret ?_
  refine ⟨Or.inr rfl, ?_⟩
  simp (disch := omega) only [go_sem]
  all_goals rfl
set_option maxHeartbeats 4000000 in
theorem c_swarfref05_move (a b c n : Rat) {k l : Nat} [SzR a k] [SzR n l] (hk : k + l ≤ 150000) :
    Ret Tryz.prog 66 [.a (ratC (a) ++ (ratC (b) ++ ratC (c))), .a (ratC n)] (.e (.a (ratC (a - n) ++ (ratC (b) ++ ratC (c))))) := by
  refine ret_of_body (md := {}) Tryz.func66 (by kernel_rfl) rfl ?_
  simp only [Tryz.f66, List.map_cons, List.map_nil, List.length_cons, List.length_nil, Nat.zero_add, Nat.reduceAdd, Nat.reduceSub, List.reduceReplicate, List.cons_append, List.nil_append]
  refine pwx_sr 3 [] (by rfl) (fun K1 hK1 => ?_)
  simp (disch := omega) only [go_sem]
  refine hK1 _ ?_
  clear hK1 K1
  refine pwx_sr 0 [] (by rfl) (fun K2 hK2 => ?_)
  refine rgnX_take 4 (fun K3 hK3 => ?_)
  simp (disch := omega) only [go_sem]
  refine ⟨_, c_swarfref02_Sub _ _ (by omega), ?_⟩
  refine hK3 _ ?_
  simp (disch := omega) only [go_sem]
  refine hK2 _ ?_
  clear hK3 K3 hK2 K2
  refine pwx_sr 0 [] (by rfl) (fun K4 hK4 => ?_)
  simp (disch := omega) only [go_sem]
  refine hK4 _ ?_
  clear hK4 K4
  refine pwp_ret ?_
  refine ⟨Or.inr rfl, ?_⟩
  simp (disch := omega) only [go_sem]
  all_goals rfl
set_option maxHeartbeats 4000000 in
theorem c_swarfref05_whole (n : Int) :
    Ret Tryz.prog 73 [.a (intC n)] (.e (.a (ratC (n : Rat)))) := by
  refine ret_of_body (md := {}) Tryz.func73 (by kernel_rfl) rfl ?_
  simp only [Tryz.f73, List.map_cons, List.map_nil, List.length_cons, List.length_nil, Nat.zero_add, Nat.reduceAdd, Nat.reduceSub, List.reduceReplicate, List.cons_append, List.nil_append]
  refine pwx_sr 2 [] (by rfl) (fun K1 hK1 => ?_)
  simp (disch := omega) only [go_sem]
  refine hK1 _ ?_
  clear hK1 K1
  refine pwx_sd Tryz.mixed 0 [] (by rfl) [] (by kernel_rfl) (by simp) (fun K2 hK2 => ?_)
  refine rgnX_take 2 (fun K3 hK3 => ?_)
  simp (disch := omega) only [go_sem]
  refine ⟨_, c_swarfref01_FromInt64 _ (by omega) (by omega), ?_⟩
  refine hK3 _ ?_
  simp (disch := omega) only [go_sem]
  refine hK2 _ ?_
  clear hK3 K3 hK2 K2
  refine pwp_ret ?_
  refine ⟨Or.inr rfl, ?_⟩
  simp (disch := omega) only [go_sem]
  all_goals rw [ratC_int]
set_option maxHeartbeats 4000000 in
theorem c_swarfref02_Floor (q : Rat) {k : Nat} [hsq : SzR q k] (hk : k ≤ 300000) :
    Ret Tryz.prog 72 [.a (ratC q)] (.e (.a (intC q.floor))) := by
  refine ret_of_body (md := {}) Tryz.func72 (by kernel_rfl) rfl ?_
  simp only [Tryz.f72, List.map_cons, List.map_nil, List.length_cons, List.length_nil, Nat.zero_add, Nat.reduceAdd, Nat.reduceSub, List.reduceReplicate, List.cons_append, List.nil_append]
  have hdq := q.den_pos
  refine pwx_sr 2 [] (by rfl) (fun K1 hK1 => ?_)
  simp (disch := omega) only [go_sem]
  refine hK1 _ ?_
  clear hK1 K1
  refine pwx_sr 2 [] (by rfl) (fun K2 hK2 => ?_)
  refine rgnX_take 5 (fun K3 hK3 => ?_)
  simp (disch := omega) only [go_sem]
  refine ⟨_, c_swarfref01_DivMod _ _ szi szi (by first | assumption | omega), ?_⟩
  refine hK3 _ ?_
  simp (disch := omega) only [go_sem]
  refine hK2 _ ?_
  clear hK3 K3 hK2 K2
  refine pwx_sr 0 [] (by rfl) (fun K4 hK4 => ?_)
  simp (disch := omega) only [go_sem]
  refine hK4 _ ?_
  clear hK4 K4
  refine pwp_ret ?_
  refine ⟨Or.inr rfl, ?_⟩
  simp (disch := omega) only [go_sem]
  all_goals rw [Rat.floor_def]
set_option maxHeartbeats 4000000 in
theorem c_swarfref02_Make (n d : Int) {k l : Nat} [hsn : SzI n k] [hsd : SzI d l] (hkl : k + l ≤ 400000) (hd : d ≠ 0) :
    Ret Tryz.prog 74 [.a (intC n), .a (intC d)] (.t [.a (ratC (Rat.divInt n d)), .c (.int .i64 0)]) := by
  refine ret_of_body (md := {}) Tryz.func74 (by kernel_rfl) rfl ?_
  simp only [Tryz.f74, List.map_cons, List.map_nil, List.length_cons, List.length_nil, Nat.zero_add, Nat.reduceAdd, Nat.reduceSub, List.reduceReplicate, List.cons_append, List.nil_append]
  refine pwx_sr 3 [] (by rfl) (fun K1 hK1 => ?_)
  simp (disch := omega) only [go_sem]
  refine hK1 _ ?_
  clear hK1 K1
  refine pwp_seq ?_
  refine pwx_sr 0 [] (by rfl) (fun K2 hK2 => ?_)
  refine rgnX_take 2 (fun K3 hK3 => ?_)
  simp (disch := omega) only [go_sem]
  refine ⟨_, c_swarfref01_Sign _, ?_⟩
  refine hK3 _ ?_
  simp (disch := omega) only [go_sem]
  refine hK2 _ ?_
  clear hK3 K3 hK2 K2
  refine pwp_cond (b := false) (by rfl) (fun h => nomatch h) (fun _ => ?_)
  refine pwp_skip ?_
  refine n_then ?_
  refine pwx_sr 0 [] (by rfl) (fun K4 hK4 => ?_)
  refine rgnX_take 3 (fun K5 hK5 => ?_)
  simp (disch := omega) only [go_sem]
  refine ⟨_, c_swarfref02_Of _ _ (by omega) hd, ?_⟩
  refine hK5 _ ?_
  simp (disch := omega) only [go_sem]
  refine hK4 _ ?_
  clear hK5 K5 hK4 K4
  refine pwp_ret ?_
  refine ⟨Or.inr rfl, ?_⟩
  simp (disch := omega) only [go_sem]
set_option maxHeartbeats 4000000 in
theorem c_swarfref02_Div (a b : Rat) {k l : Nat} [SzR a k] [SzR b l] (hkl : k + l ≤ 100000) (hb0 : b ≠ 0) :
    Ret Tryz.prog 32 [.a (ratC a), .a (ratC b)] (.t [.a (ratC (a / b)), .c (.int .i64 0)]) := by
  refine ret_of_body (md := {}) Tryz.func32 (by kernel_rfl) rfl ?_
  simp only [Tryz.f32, List.map_cons, List.map_nil, List.length_cons, List.length_nil, Nat.zero_add, Nat.reduceAdd, Nat.reduceSub, List.reduceReplicate, List.cons_append, List.nil_append]
  have hda := a.den_pos
  have hdb := b.den_pos
  have hdab := Nat.mul_pos hda hdb
  have hne := Int.mul_ne_zero (den_ne a) (num_ne hb0)
  refine pwx_sr 3 [] (by rfl) (fun K1 hK1 => ?_)
  simp (disch := omega) only [go_sem]
  refine hK1 _ ?_
  clear hK1 K1
  refine pwx_sd Tryz.mixed 0 [] (by rfl) [] (by kernel_rfl) (by simp) (fun K2 hK2 => ?_)
  refine rgnX_take 5 (fun K3 hK3 => ?_)
  simp (disch := omega) only [go_sem]
  refine ⟨_, c_swarfref01_Mul _ _ szi szi, ?_⟩
  refine hK3 _ ?_
  refine rgnX_take 5 (fun K4 hK4 => ?_)
  simp (disch := omega) only [go_sem]
  refine ⟨_, c_swarfref01_Mul _ _ szi szi, ?_⟩
  refine hK4 _ ?_
  refine rgnX_take 1 (fun K5 hK5 => ?_)
  simp (disch := omega) only [go_sem]
  refine ⟨_, c_swarfref02_Make _ _ (by omega) hne, ?_⟩
  refine hK5 _ ?_
  simp (disch := omega) only [go_sem]
  refine hK2 _ ?_
  clear hK5 K5 hK4 K4 hK3 K3 hK2 K2
  refine pwp_ret ?_
  refine ⟨Or.inr rfl, ?_⟩
  simp (disch := omega) only [go_sem]
  all_goals rw [div_divInt a hb0]
set_option maxHeartbeats 4000000 in
theorem c_swarflaw05_num (n : Int) (h0 : -9223372036854775808 ≤ n) (h1 : n < 9223372036854775808) :
    Ret Tryz.prog 14 [.c (.int .i64 n)] (.e (.a (ratC (n : Rat)))) := by
  refine ret_of_body (md := {}) Tryz.func14 (by kernel_rfl) rfl ?_
  simp only [Tryz.f14, List.map_cons, List.map_nil, List.length_cons, List.length_nil, Nat.zero_add, Nat.reduceAdd, Nat.reduceSub, List.reduceReplicate, List.cons_append, List.nil_append]
  refine pwx_sr 1 [] (by rfl) (fun K1 hK1 => ?_)
  simp (disch := omega) only [go_sem]
  refine hK1 _ ?_
  clear hK1 K1
  refine pwx_sr 0 [] (by rfl) (fun K2 hK2 => ?_)
  refine rgnX_take 2 (fun K3 hK3 => ?_)
  simp (disch := omega) only [go_sem]
  refine ⟨_, c_swarfref02_FromInt64 _ (by omega) (by omega), ?_⟩
  refine hK3 _ ?_
  simp (disch := omega) only [go_sem]
  refine hK2 _ ?_
  clear hK3 K3 hK2 K2
  refine pwp_ret ?_
  refine ⟨Or.inr rfl, ?_⟩
  simp (disch := omega) only [go_sem]
  all_goals rfl

end Go.Proofs.YtdojhoegildiaaaGreat

namespace Go.PL
open Go.RL
/-- What point.near computes. -/
def nrR (a b c t : Rat) : Rat := Rat.divInt (flR (a * (1 / t)) (b * (1 / t)) (rC (b * (1 / t)) c)) 1 * t
theorem divInt_1 (n : Int) : Rat.divInt n 1 = (n : Rat) := by
  rw [Rat.divInt_eq_div]
  have e1 : ((1 : Int) : Rat) = 1 := rfl
  rw [e1]; grind
theorem v2_rC2 {u b c s : Rat} : v2 u (b * s) (rC (b * s) (rC b c)) = v2 u (b * s) c := by
  rw [v2_rC]
  by_cases h : b = 0
  · rw [h, Rat.zero_mul, v2_b0, v2_b0]
  · rw [rC_1 h]
theorem near_ok {a b c t : Rat} (hk : b = 0 ∨ (0 < c ∧ sqB c = false)) (hc : 0 ≤ c) (ht : 0 < t) :
    0 ≤ r3S (a - (nrR a b (rC b c) t - t)) b (rC b c) ∧ r3S (a - (nrR a b (rC b c) t + t)) b (rC b c) ≤ 0 := by
  have hk' : b = 0 ∨ (0 < rC b c ∧ sqB (rC b c) = false) := by
    by_cases h : b = 0
    · exact .inl h
    · rw [rC_1 h]; exact hk
  rw [r3S_two hk', r3S_two hk', two_eq (rC_nn hc), two_eq (rC_nn hc), v2_rC, v2_rC]
  obtain ⟨f1, f2⟩ := flR_spec (a := a * (1 / t)) (b := b * (1 / t)) (c := rC (b * (1 / t)) (rC b c)) (rC_nn (rC_nn hc))
  unfold nrR
  rw [divInt_1]
  generalize flR (a * (1 / t)) (b * (1 / t)) (rC (b * (1 / t)) (rC b c)) = f at *
  rw [v2_rC2] at f1 f2
  have e : t * (1 / t) = 1 := by grind
  have st : sgn (Re.of t) = 1 := by rw [sgn_of]; exact sgnQ_pos ht
  refine ⟨?_, ?_⟩
  · have h := nn_add (nn_mul (show 0 ≤ sgn (Re.of t) by omega) f1) (show 0 ≤ sgn (Re.of t) by omega)
    refine nn_eq (fun n => ?_) h
    simp only [v2, Re.add_s, Re.mul_s, Re.of_s]
    grind
  · have h : v2 (a - ((f : Rat) * t + t)) b c = Re.of t * v2 (a * (1 / t) - ((f : Rat) + 1)) (b * (1 / t)) c := Re.ext fun n => by
      simp only [v2, Re.add_s, Re.mul_s, Re.of_s]
      grind
    rw [h, sgn_mul, st]
    omega
theorem vldP_x {b e c : Rat} (h : vldP b e c = true) : b = 0 ∨ (0 < c ∧ sqB c = false) := by
  by_cases hc : c = 0
  · exact .inl (vldP_z h hc).1
  · exact .inr (vldP_s h hc)
theorem vldP_y {b e c : Rat} (h : vldP b e c = true) : e = 0 ∨ (0 < c ∧ sqB c = false) := by
  by_cases hc : c = 0
  · exact .inl (vldP_z h hc).2
  · exact .inr (vldP_s h hc)
instance SzR.nrR {a b c t : Rat} {k l m o : Nat} [SzR a k] [SzR b l] [SzR c m] [SzR t o] : SzR (nrR a b c t) (3 * (k + (1 + o)) + 6 * (l + (1 + o)) + 3 * (1 + m) + 10 + o) := by
  unfold PL.nrR
  exact (inferInstance : SzR _ _).mono (by omega)
end Go.PL

set_option linter.unusedSimpArgs false
set_option linter.unusedVariables false
set_option maxRecDepth 20000
namespace Go.Proofs.YtdojhoegildiaaaGreat
open Go Go.PL Go.RL
set_option maxHeartbeats 4000000 in
theorem c_between_1 (a b c a' b' c' : Rat) [SzR a 330] [SzR b 330] [SzR c 330] [SzR a' 330] [SzR b' 330] [SzR c' 330] (hc : 0 ≤ c) (hc' : 0 ≤ c') (n : Int) (hn : flR a b c = n) [SzI n 700] (h1 : 0 < two (a' - ((n : Rat) + 1)) b' c') :
    Ret Tryz.prog 59 [.a (ratC (a) ++ (ratC (b) ++ ratC (c))), .a (ratC (a') ++ (ratC (b') ++ ratC (c')))] (.e (.a (ratC ((n : Rat) + 1)))) := by
  refine ret_of_body (md := {}) Tryz.func59 (by kernel_rfl) rfl ?_
  simp only [Tryz.f59, List.map_cons, List.map_nil, List.length_cons, List.length_nil, Nat.zero_add, Nat.reduceAdd, Nat.reduceSub, List.reduceReplicate, List.cons_append, List.nil_append]
  refine pwx_sr 3 [] (by rfl) (fun K1 hK1 => ?_)
  simp (disch := omega) only [go_sem, nr_1, hn, divInt_1]
  refine hK1 _ ?_
  clear hK1 K1
  refine pwx_sr 1 [] (by rfl) (fun K2 hK2 => ?_)
  refine rgnX_take 1 (fun K3 hK3 => ?_)
  simp (disch := omega) only [go_sem, nr_1, hn, divInt_1]
  refine ⟨_, c_rational_FromInt64 _ (by omega) (by omega), ?_⟩
  refine hK3 _ ?_
  simp (disch := omega) only [go_sem, nr_1, hn, divInt_1]
  refine hK2 _ ?_
  clear hK3 K3 hK2 K2
  refine pwx_sr 1 [] (by rfl) (fun K4 hK4 => ?_)
  refine rgnX_take 2 (fun K5 hK5 => ?_)
  simp (disch := omega) only [go_sem, nr_1, hn, divInt_1]
  refine ⟨_, c_root_Floor _ _ _ (by omega), ?_⟩
  refine hK5 _ ?_
  refine rgnX_take 1 (fun K6 hK6 => ?_)
  simp (disch := omega) only [go_sem, nr_1, hn, divInt_1]
  refine ⟨_, c_integer_FromInt64 _ (by omega) (by omega), ?_⟩
  refine hK6 _ ?_
  refine rgnX_take 1 (fun K7 hK7 => ?_)
  simp (disch := omega) only [go_sem, nr_1, hn, divInt_1]
  refine ⟨_, c_rational_Make _ _ (by omega) (by omega), ?_⟩
  refine hK7 _ ?_
  simp (disch := omega) only [go_sem, nr_1, hn, divInt_1]
  refine hK4 _ ?_
  clear hK7 K7 hK6 K6 hK5 K5 hK4 K4
  refine pwx_sr 1 [] (by rfl) (fun K8 hK8 => ?_)
  refine rgnX_take 3 (fun K9 hK9 => ?_)
  simp (disch := omega) only [go_sem, nr_1, hn, divInt_1]
  refine ⟨_, c_rational_Add _ _ (by omega), ?_⟩
  refine hK9 _ ?_
  simp (disch := omega) only [go_sem, nr_1, hn, divInt_1]
  refine hK8 _ ?_
  clear hK9 K9 hK8 K8
  refine pwp_seq ?_
  refine pwx_sr 0 [] (by rfl) (fun K10 hK10 => ?_)
  refine rgnX_take 3 (fun K11 hK11 => ?_)
  simp (disch := omega) only [go_sem, nr_1, hn, divInt_1, h1, decide_true]
  refine ⟨_, c_radical_CmpRat _ _ _ _ (by omega) (by assumption), ?_⟩
  refine hK11 _ ?_
  simp (disch := omega) only [go_sem, nr_1, hn, divInt_1, h1, decide_true]
  refine hK10 _ ?_
  clear hK11 K11 hK10 K10
  refine pwp_cond (b := true) (by rfl) (fun _ => ?_) (fun h => nomatch h)
  refine pwx_sr 0 [] (by rfl) (fun K12 hK12 => ?_)
  simp (disch := omega) only [go_sem, nr_1, hn, divInt_1]
  refine hK12 _ ?_
  clear hK12 K12
  refine pwp_ret ?_
  refine r_then ?_
  refine ⟨Or.inr rfl, ?_⟩
  simp (disch := omega) only [go_sem, nr_1, hn, divInt_1]
  all_goals rfl
set_option maxHeartbeats 4000000 in
theorem c_between_2 (a b c a' b' c' : Rat) [SzR a 330] [SzR b 330] [SzR c 330] [SzR a' 330] [SzR b' 330] [SzR c' 330] (hc : 0 ≤ c) (hc' : 0 ≤ c') (n : Int) (hn : flR a b c = n) [SzI n 700] (h1 : ¬ 0 < two (a' - ((n : Rat) + 1)) b' c') (h2 : two (a - (n : Rat)) b c = 0) (hs1 : rsS (a' - (n : Rat)) b' c' ≠ 0) (hN1 : ((a' - (n : Rat)) * (a' - (n : Rat)) - (b') * (b') * c') ≠ 0) (m : Int) (hm : flR ((a' - n) * (1 / ((a' - n) * (a' - n) - (b') * (b') * c'))) (-b' * (1 / ((a' - n) * (a' - n) - (b') * (b') * c'))) (rC (-b' * (1 / ((a' - n) * (a' - n) - (b') * (b') * c'))) c') = m) [SzI m 1000] (hy : (m : Rat) + 1 ≠ 0) :
    Ret Tryz.prog 59 [.a (ratC (a) ++ (ratC (b) ++ ratC (c))), .a (ratC (a') ++ (ratC (b') ++ ratC (c')))] (.e (.a (ratC ((n : Rat) + 1 / ((m : Rat) + 1))))) := by
  refine ret_of_body (md := {}) Tryz.func59 (by kernel_rfl) rfl ?_
  simp only [Tryz.f59, List.map_cons, List.map_nil, List.length_cons, List.length_nil, Nat.zero_add, Nat.reduceAdd, Nat.reduceSub, List.reduceReplicate, List.cons_append, List.nil_append]
  refine pwx_sr 3 [] (by rfl) (fun K1 hK1 => ?_)
  simp (disch := omega) only [go_sem, nr_1, hn, divInt_1, hm]
  refine hK1 _ ?_
  clear hK1 K1
  refine pwx_sr 1 [] (by rfl) (fun K2 hK2 => ?_)
  refine rgnX_take 1 (fun K3 hK3 => ?_)
  simp (disch := omega) only [go_sem, nr_1, hn, divInt_1, hm]
  refine ⟨_, c_rational_FromInt64 _ (by omega) (by omega), ?_⟩
  refine hK3 _ ?_
  simp (disch := omega) only [go_sem, nr_1, hn, divInt_1, hm]
  refine hK2 _ ?_
  clear hK3 K3 hK2 K2
  refine pwx_sr 1 [] (by rfl) (fun K4 hK4 => ?_)
  refine rgnX_take 2 (fun K5 hK5 => ?_)
  simp (disch := omega) only [go_sem, nr_1, hn, divInt_1, hm]
  refine ⟨_, c_root_Floor _ _ _ (by omega), ?_⟩
  refine hK5 _ ?_
  refine rgnX_take 1 (fun K6 hK6 => ?_)
  simp (disch := omega) only [go_sem, nr_1, hn, divInt_1, hm]
  refine ⟨_, c_integer_FromInt64 _ (by omega) (by omega), ?_⟩
  refine hK6 _ ?_
  refine rgnX_take 1 (fun K7 hK7 => ?_)
  simp (disch := omega) only [go_sem, nr_1, hn, divInt_1, hm]
  refine ⟨_, c_rational_Make _ _ (by omega) (by omega), ?_⟩
  refine hK7 _ ?_
  simp (disch := omega) only [go_sem, nr_1, hn, divInt_1, hm]
  refine hK4 _ ?_
  clear hK7 K7 hK6 K6 hK5 K5 hK4 K4
  refine pwx_sr 1 [] (by rfl) (fun K8 hK8 => ?_)
  refine rgnX_take 3 (fun K9 hK9 => ?_)
  simp (disch := omega) only [go_sem, nr_1, hn, divInt_1, hm]
  refine ⟨_, c_rational_Add _ _ (by omega), ?_⟩
  refine hK9 _ ?_
  simp (disch := omega) only [go_sem, nr_1, hn, divInt_1, hm]
  refine hK8 _ ?_
  clear hK9 K9 hK8 K8
  refine pwp_seq ?_
  refine pwx_sr 0 [] (by rfl) (fun K10 hK10 => ?_)
  refine rgnX_take 3 (fun K11 hK11 => ?_)
  simp (disch := omega) only [go_sem, nr_1, hn, divInt_1, hm, h1, decide_false]
  refine ⟨_, c_radical_CmpRat _ _ _ _ (by omega) (by assumption), ?_⟩
  refine hK11 _ ?_
  simp (disch := omega) only [go_sem, nr_1, hn, divInt_1, hm, h1, decide_false]
  refine hK10 _ ?_
  clear hK11 K11 hK10 K10
  refine pwp_cond (b := false) (by rfl) (fun h => nomatch h) (fun _ => ?_)
  refine pwp_skip ?_
  refine n_then ?_
  refine pwx_sr 1 [] (by rfl) (fun K12 hK12 => ?_)
  refine rgnX_take 3 (fun K13 hK13 => ?_)
  simp (disch := omega) only [go_sem, nr_1, hn, divInt_1, hm]
  refine ⟨_, c_radical_less _ _ _ _ (by omega), ?_⟩
  refine hK13 _ ?_
  refine rgnX_take 1 (fun K14 hK14 => ?_)
  simp (disch := omega) only [go_sem, nr_1, hn, divInt_1, hm]
  first | refine ⟨_, c_root_Inv _ _ _ (by omega) hs1 hN1, ?_⟩ | refine ⟨_, c_root_Inv _ _ _ (by omega) hs2 hN2, ?_⟩
  refine hK14 _ ?_
  simp (disch := omega) only [go_sem, nr_1, hn, divInt_1, hm]
  refine hK12 _ ?_
  clear hK14 K14 hK13 K13 hK12 K12
  refine pwx_sr 1 [] (by rfl) (fun K15 hK15 => ?_)
  simp (disch := omega) only [go_sem, nr_1, hn, divInt_1, hm]
  refine hK15 _ ?_
  clear hK15 K15
  refine pwp_seq ?_
  refine pwx_sr 0 [] (by rfl) (fun K16 hK16 => ?_)
  refine rgnX_take 3 (fun K17 hK17 => ?_)
  simp (disch := omega) only [go_sem, nr_1, hn, divInt_1, hm, h2, decide_true]
  refine ⟨_, c_radical_CmpRat _ _ _ _ (by omega) (by assumption), ?_⟩
  refine hK17 _ ?_
  simp (disch := omega) only [go_sem, nr_1, hn, divInt_1, hm, h2, decide_true]
  refine hK16 _ ?_
  clear hK17 K17 hK16 K16
  refine pwp_cond (b := true) (by rfl) (fun _ => ?_) (fun h => nomatch h)
  refine pwx_sr 1 [] (by rfl) (fun K18 hK18 => ?_)
  refine rgnX_take 2 (fun K19 hK19 => ?_)
  simp (disch := omega) only [go_sem, nr_1, hn, divInt_1, hm]
  refine ⟨_, c_root_Floor _ _ _ (by omega), ?_⟩
  refine hK19 _ ?_
  refine rgnX_take 1 (fun K20 hK20 => ?_)
  simp (disch := omega) only [go_sem, nr_1, hn, divInt_1, hm]
  refine ⟨_, c_integer_FromInt64 _ (by omega) (by omega), ?_⟩
  refine hK20 _ ?_
  refine rgnX_take 1 (fun K21 hK21 => ?_)
  simp (disch := omega) only [go_sem, nr_1, hn, divInt_1, hm]
  refine ⟨_, c_rational_Make _ _ (by omega) (by omega), ?_⟩
  refine hK21 _ ?_
  simp (disch := omega) only [go_sem, nr_1, hn, divInt_1, hm]
  refine hK18 _ ?_
  clear hK21 K21 hK20 K20 hK19 K19 hK18 K18
  refine pwx_region 0 [] (by rfl) (fun K22 hK22 => ?_)
  refine rgnX_take 3 (fun K23 hK23 => ?_)
  simp (disch := omega) only [go_sem, nr_1, hn, divInt_1, hm]
  refine ⟨_, c_rational_Add _ _ (by omega), ?_⟩
  refine hK23 _ ?_
  simp (disch := omega) only [go_sem, nr_1, hn, divInt_1, hm]
  refine hK22 _ ?_
  clear hK23 K23 hK22 K22
  refine n_then ?_
  refine pwx_sr 1 [] (by rfl) (fun K24 hK24 => ?_)
  refine rgnX_take 3 (fun K25 hK25 => ?_)
  simp (disch := omega) only [go_sem, nr_1, hn, divInt_1, hm]
  refine ⟨_, c_rational_Div _ _ (by omega) hy, ?_⟩
  refine hK25 _ ?_
  simp (disch := omega) only [go_sem, nr_1, hn, divInt_1, hm]
  refine hK24 _ ?_
  clear hK25 K25 hK24 K24
  refine pwx_sr 0 [] (by rfl) (fun K26 hK26 => ?_)
  refine rgnX_take 3 (fun K27 hK27 => ?_)
  simp (disch := omega) only [go_sem, nr_1, hn, divInt_1, hm]
  refine ⟨_, c_rational_Add _ _ (by omega), ?_⟩
  refine hK27 _ ?_
  simp (disch := omega) only [go_sem, nr_1, hn, divInt_1, hm]
  refine hK26 _ ?_
  clear hK27 K27 hK26 K26
  refine pwp_ret ?_
  refine ⟨Or.inr rfl, ?_⟩
  simp (disch := omega) only [go_sem, nr_1, hn, divInt_1, hm]
  all_goals rfl
set_option maxHeartbeats 4000000 in
theorem c_between_3 (a b c a' b' c' : Rat) [SzR a 330] [SzR b 330] [SzR c 330] [SzR a' 330] [SzR b' 330] [SzR c' 330] (hc : 0 ≤ c) (hc' : 0 ≤ c') (n : Int) (hn : flR a b c = n) [SzI n 700] (h1 : ¬ 0 < two (a' - ((n : Rat) + 1)) b' c') (h2 : ¬ two (a - (n : Rat)) b c = 0) (hs1 : rsS (a' - (n : Rat)) b' c' ≠ 0) (hN1 : ((a' - (n : Rat)) * (a' - (n : Rat)) - (b') * (b') * c') ≠ 0) (hs2 : rsS (a - (n : Rat)) b c ≠ 0) (hN2 : ((a - (n : Rat)) * (a - (n : Rat)) - (b) * (b) * c) ≠ 0) (y : Rat) [SzR y 1000] (hy : y ≠ 0) (hr : Ret Tryz.prog 59 [.a (ratC ((a' - n) * (1 / ((a' - n) * (a' - n) - (b') * (b') * c'))) ++ (ratC (-b' * (1 / ((a' - n) * (a' - n) - (b') * (b') * c'))) ++ ratC (rC (-b' * (1 / ((a' - n) * (a' - n) - (b') * (b') * c'))) c'))), .a (ratC ((a - n) * (1 / ((a - n) * (a - n) - (b) * (b) * c))) ++ (ratC (-b * (1 / ((a - n) * (a - n) - (b) * (b) * c))) ++ ratC (rC (-b * (1 / ((a - n) * (a - n) - (b) * (b) * c))) c)))] (.e (.a (ratC y)))) :
    Ret Tryz.prog 59 [.a (ratC (a) ++ (ratC (b) ++ ratC (c))), .a (ratC (a') ++ (ratC (b') ++ ratC (c')))] (.e (.a (ratC ((n : Rat) + 1 / y)))) := by
  refine ret_of_body (md := {}) Tryz.func59 (by kernel_rfl) rfl ?_
  simp only [Tryz.f59, List.map_cons, List.map_nil, List.length_cons, List.length_nil, Nat.zero_add, Nat.reduceAdd, Nat.reduceSub, List.reduceReplicate, List.cons_append, List.nil_append]
  refine pwx_sr 3 [] (by rfl) (fun K1 hK1 => ?_)
  simp (disch := omega) only [go_sem, nr_1, hn, divInt_1]
  refine hK1 _ ?_
  clear hK1 K1
  refine pwx_sr 1 [] (by rfl) (fun K2 hK2 => ?_)
  refine rgnX_take 1 (fun K3 hK3 => ?_)
  simp (disch := omega) only [go_sem, nr_1, hn, divInt_1]
  refine ⟨_, c_rational_FromInt64 _ (by omega) (by omega), ?_⟩
  refine hK3 _ ?_
  simp (disch := omega) only [go_sem, nr_1, hn, divInt_1]
  refine hK2 _ ?_
  clear hK3 K3 hK2 K2
  refine pwx_sr 1 [] (by rfl) (fun K4 hK4 => ?_)
  refine rgnX_take 2 (fun K5 hK5 => ?_)
  simp (disch := omega) only [go_sem, nr_1, hn, divInt_1]
  refine ⟨_, c_root_Floor _ _ _ (by omega), ?_⟩
  refine hK5 _ ?_
  refine rgnX_take 1 (fun K6 hK6 => ?_)
  simp (disch := omega) only [go_sem, nr_1, hn, divInt_1]
  refine ⟨_, c_integer_FromInt64 _ (by omega) (by omega), ?_⟩
  refine hK6 _ ?_
  refine rgnX_take 1 (fun K7 hK7 => ?_)
  simp (disch := omega) only [go_sem, nr_1, hn, divInt_1]
  refine ⟨_, c_rational_Make _ _ (by omega) (by omega), ?_⟩
  refine hK7 _ ?_
  simp (disch := omega) only [go_sem, nr_1, hn, divInt_1]
  refine hK4 _ ?_
  clear hK7 K7 hK6 K6 hK5 K5 hK4 K4
  refine pwx_sr 1 [] (by rfl) (fun K8 hK8 => ?_)
  refine rgnX_take 3 (fun K9 hK9 => ?_)
  simp (disch := omega) only [go_sem, nr_1, hn, divInt_1]
  refine ⟨_, c_rational_Add _ _ (by omega), ?_⟩
  refine hK9 _ ?_
  simp (disch := omega) only [go_sem, nr_1, hn, divInt_1]
  refine hK8 _ ?_
  clear hK9 K9 hK8 K8
  refine pwp_seq ?_
  refine pwx_sr 0 [] (by rfl) (fun K10 hK10 => ?_)
  refine rgnX_take 3 (fun K11 hK11 => ?_)
  simp (disch := omega) only [go_sem, nr_1, hn, divInt_1, h1, decide_false]
  refine ⟨_, c_radical_CmpRat _ _ _ _ (by omega) (by assumption), ?_⟩
  refine hK11 _ ?_
  simp (disch := omega) only [go_sem, nr_1, hn, divInt_1, h1, decide_false]
  refine hK10 _ ?_
  clear hK11 K11 hK10 K10
  refine pwp_cond (b := false) (by rfl) (fun h => nomatch h) (fun _ => ?_)
  refine pwp_skip ?_
  refine n_then ?_
  refine pwx_sr 1 [] (by rfl) (fun K12 hK12 => ?_)
  refine rgnX_take 3 (fun K13 hK13 => ?_)
  simp (disch := omega) only [go_sem, nr_1, hn, divInt_1]
  refine ⟨_, c_radical_less _ _ _ _ (by omega), ?_⟩
  refine hK13 _ ?_
  refine rgnX_take 1 (fun K14 hK14 => ?_)
  simp (disch := omega) only [go_sem, nr_1, hn, divInt_1]
  first | refine ⟨_, c_root_Inv _ _ _ (by omega) hs1 hN1, ?_⟩ | refine ⟨_, c_root_Inv _ _ _ (by omega) hs2 hN2, ?_⟩
  refine hK14 _ ?_
  simp (disch := omega) only [go_sem, nr_1, hn, divInt_1]
  refine hK12 _ ?_
  clear hK14 K14 hK13 K13 hK12 K12
  refine pwx_sr 1 [] (by rfl) (fun K15 hK15 => ?_)
  simp (disch := omega) only [go_sem, nr_1, hn, divInt_1]
  refine hK15 _ ?_
  clear hK15 K15
  refine pwp_seq ?_
  refine pwx_sr 0 [] (by rfl) (fun K16 hK16 => ?_)
  refine rgnX_take 3 (fun K17 hK17 => ?_)
  simp (disch := omega) only [go_sem, nr_1, hn, divInt_1, h2, decide_false]
  refine ⟨_, c_radical_CmpRat _ _ _ _ (by omega) (by assumption), ?_⟩
  refine hK17 _ ?_
  simp (disch := omega) only [go_sem, nr_1, hn, divInt_1, h2, decide_false]
  refine hK16 _ ?_
  clear hK17 K17 hK16 K16
  refine pwp_cond (b := false) (by rfl) (fun h => nomatch h) (fun _ => ?_)
  refine pwx_sr 1 [] (by rfl) (fun K18 hK18 => ?_)
  refine rgnX_take 3 (fun K19 hK19 => ?_)
  simp (disch := omega) only [go_sem, nr_1, hn, divInt_1]
  refine ⟨_, c_radical_less _ _ _ _ (by omega), ?_⟩
  refine hK19 _ ?_
  refine rgnX_take 1 (fun K20 hK20 => ?_)
  simp (disch := omega) only [go_sem, nr_1, hn, divInt_1]
  first | refine ⟨_, c_root_Inv _ _ _ (by omega) hs1 hN1, ?_⟩ | refine ⟨_, c_root_Inv _ _ _ (by omega) hs2 hN2, ?_⟩
  refine hK20 _ ?_
  simp (disch := omega) only [go_sem, nr_1, hn, divInt_1]
  refine hK18 _ ?_
  clear hK20 K20 hK19 K19 hK18 K18
  refine pwx_region 0 [] (by rfl) (fun K21 hK21 => ?_)
  refine rgnX_take 3 (fun K22 hK22 => ?_)
  simp (disch := omega) only [go_sem, nr_1, hn, divInt_1]
  refine ⟨_, hr, ?_⟩
  refine hK22 _ ?_
  simp (disch := omega) only [go_sem, nr_1, hn, divInt_1]
  refine hK21 _ ?_
  clear hK22 K22 hK21 K21
  refine n_then ?_
  refine pwx_sr 1 [] (by rfl) (fun K23 hK23 => ?_)
  refine rgnX_take 3 (fun K24 hK24 => ?_)
  simp (disch := omega) only [go_sem, nr_1, hn, divInt_1]
  refine ⟨_, c_rational_Div _ _ (by omega) hy, ?_⟩
  refine hK24 _ ?_
  simp (disch := omega) only [go_sem, nr_1, hn, divInt_1]
  refine hK23 _ ?_
  clear hK24 K24 hK23 K23
  refine pwx_sr 0 [] (by rfl) (fun K25 hK25 => ?_)
  refine rgnX_take 3 (fun K26 hK26 => ?_)
  simp (disch := omega) only [go_sem, nr_1, hn, divInt_1]
  refine ⟨_, c_rational_Add _ _ (by omega), ?_⟩
  refine hK26 _ ?_
  simp (disch := omega) only [go_sem, nr_1, hn, divInt_1]
  refine hK25 _ ?_
  clear hK26 K26 hK25 K25
  refine pwp_ret ?_
  refine ⟨Or.inr rfl, ?_⟩
  simp (disch := omega) only [go_sem, nr_1, hn, divInt_1]
  all_goals rfl

end Go.Proofs.YtdojhoegildiaaaGreat

set_option linter.unusedSimpArgs false
set_option linter.unusedVariables false
namespace Go.PL
open Go.RL
/-- The norm of a root minus an integer. -/
abbrev nm (a b c : Rat) (n : Int) : Rat := (a - (n : Rat)) * (a - (n : Rat)) - b * b * c
/-- The inverse of a root minus an integer. -/
abbrev ivA (a b c : Rat) (n : Int) : Rat := (a - (n : Rat)) * (1 / nm a b c n)
abbrev ivB (a b c : Rat) (n : Int) : Rat := -b * (1 / nm a b c n)
abbrev ivC (a b c : Rat) (n : Int) : Rat := rC (ivB a b c n) c
/-- What is known at each step. -/
structure Bt0 (a b c a' b' c' : Rat) (n : Int) : Prop where
  sa : SzR a 330
  sb : SzR b 330
  sc : SzR c 330
  sa' : SzR a' 330
  sb' : SzR b' 330
  sc' : SzR c' 330
  hc : Rdc b c
  hc' : Rdc b' c'
  z : b = 0 → c = 0
  z' : b' = 0 → c' = 0
  hn : flR a b c = n
  sn : SzI n 700
  h0 : 0 ≤ two (a - 0) b c
/-- The way of the continued fraction. -/
inductive Bt : Rat → Rat → Rat → Rat → Rat → Rat → Rat → Prop where
  | next {a b c a' b' c' : Rat} {n : Int} (e : Bt0 a b c a' b' c' n) (h1 : 0 < two (a' - ((n : Rat) + 1)) b' c') : Bt a b c a' b' c' ((n : Rat) + 1)
  | last {a b c a' b' c' : Rat} {n m : Int} (e : Bt0 a b c a' b' c' n) (h1 : ¬ 0 < two (a' - ((n : Rat) + 1)) b' c') (h2 : two (a - (n : Rat)) b c = 0)
      (hs : rsS (a' - (n : Rat)) b' c' ≠ 0) (hN : nm a' b' c' n ≠ 0) (hm : flR (ivA a' b' c' n) (ivB a' b' c' n) (ivC a' b' c' n) = m) (sA : SzR (ivA a' b' c' n) 330) (sB : SzR (ivB a' b' c' n) 330) (sC : SzR (ivC a' b' c' n) 330)
      (hr : Rdc (ivB a' b' c' n) (ivC a' b' c' n)) (sm : SzI m 1000) (hy : (m : Rat) + 1 ≠ 0) : Bt a b c a' b' c' ((n : Rat) + 1 / ((m : Rat) + 1))
  | step {a b c a' b' c' : Rat} {n : Int} {y : Rat} (e : Bt0 a b c a' b' c' n) (h1 : ¬ 0 < two (a' - ((n : Rat) + 1)) b' c') (h2 : ¬ two (a - (n : Rat)) b c = 0)
      (hs : rsS (a' - (n : Rat)) b' c' ≠ 0) (hN : nm a' b' c' n ≠ 0) (hs' : rsS (a - (n : Rat)) b c ≠ 0) (hN' : nm a b c n ≠ 0) (sA : SzR (ivA a' b' c' n) 330) (sB : SzR (ivB a' b' c' n) 330) (sC : SzR (ivC a' b' c' n) 330)
      (sA' : SzR (ivA a b c n) 330) (sB' : SzR (ivB a b c n) 330) (sC' : SzR (ivC a b c n) 330) (sy : SzR y 1000) (hy : y ≠ 0)
      (r : Bt (ivA a' b' c' n) (ivB a' b' c' n) (ivC a' b' c' n) (ivA a b c n) (ivB a b c n) (ivC a b c n) y) : Bt a b c a' b' c' ((n : Rat) + 1 / y)
theorem Rdc.inv {b c : Rat} (h : Rdc b c) (i : Rat) : Rdc (-b * i) (rC (-b * i) c) := by
  refine ⟨rC_nn h.1, ?_⟩
  by_cases q : -b * i = 0
  · exact .inl q
  · rw [rC_n q]
    refine .inr (h.2.resolve_left fun e => q ?_)
    rw [e]; grind
theorem rC_sz {b c : Rat} {k : Nat} (h : SzR c k) (hk : 0 < k) : SzR (rC b c) k := by
  by_cases q : b = 0
  · rw [rC_z q]; exact (inferInstance : SzR (0 : Rat) 1).mono (by omega)
  · rw [rC_n q]; exact h
/-- A root's fraction part times its inverse is 1. -/
theorem inv_mul {a b c : Rat} {n : Int} (hc : 0 ≤ c) (hN : nm a b c n ≠ 0) : null (v2 (a - (n : Rat)) b c * v2 (ivA a b c n) (ivB a b c n) (ivC a b c n) - Re.of 1) := by
  rw [v2_rC]
  have hi : 1 / nm a b c n * nm a b c n = 1 := Rat.div_mul_cancel hN
  have e : v2 (a - (n : Rat)) b c * v2 (ivA a b c n) (ivB a b c n) c - Re.of 1 = Re.of (-(b * b * (1 / nm a b c n))) * (rt c * rt c - Re.of c) := Re.ext fun k => by
    have hi' : 1 / nm a b c n * ((a - (n : Rat)) * (a - (n : Rat)) - b * b * c) = 1 := hi
    generalize 1 / nm a b c n = i at *
    simp only [v2, Re.add_s, Re.sub_s, Re.mul_s, Re.of_s]
    grind
  rw [e]; exact null_mul' _ (rt_sq hc)
theorem sgn_of1 : sgn (Re.of 1) = 1 := by rw [sgn_of]; rfl
theorem inv_pos {a b c : Rat} {n : Int} (hc : 0 ≤ c) (hN : nm a b c n ≠ 0) (h : sgn (v2 (a - (n : Rat)) b c) = 1) : sgn (v2 (ivA a b c n) (ivB a b c n) (ivC a b c n)) = 1 := by
  have h1 := sgn_eqv (inv_mul hc hN)
  rwa [sgn_mul, h, sgn_of1, Int.one_mul] at h1
/-- The inverse lies beyond a number where the fraction part lies below its inverse. -/
theorem inv_sgn {a b c w : Rat} {n : Int} (hc : 0 ≤ c) (hN : nm a b c n ≠ 0) (h : sgn (v2 (a - (n : Rat)) b c) = 1) (hw : 0 < w) :
    sgn (v2 (ivA a b c n - w) (ivB a b c n) (ivC a b c n)) = -sgn (v2 (a - ((n : Rat) + 1 / w)) b c) := by
  have hwi : 1 / w * w = 1 := Rat.div_mul_cancel (by grind)
  have h1 : sgn (v2 (a - (n : Rat)) b c * v2 (ivA a b c n - w) (ivB a b c n) (ivC a b c n)) = sgn (Re.of (-w) * v2 (a - ((n : Rat) + 1 / w)) b c) := by
    refine sgn_eqv ?_
    have e : v2 (a - (n : Rat)) b c * v2 (ivA a b c n - w) (ivB a b c n) (ivC a b c n) - Re.of (-w) * v2 (a - ((n : Rat) + 1 / w)) b c = v2 (a - (n : Rat)) b c * v2 (ivA a b c n) (ivB a b c n) (ivC a b c n) - Re.of 1 := Re.ext fun k => by
      generalize 1 / w = i at *
      simp only [v2, Re.add_s, Re.sub_s, Re.mul_s, Re.of_s]
      grind
    show null _
    rw [e]; exact inv_mul hc hN
  rw [sgn_mul, sgn_mul, h, Int.one_mul, Re.of_neg, sgn_neg, sgn_of, sgnQ_pos hw] at h1
  rw [h1]; omega
theorem v2_le0 {a b c z z' : Rat} (h : 0 ≤ sgn (v2 (a - z) b c)) (h' : sgn (v2 (a - z') b c) = -1) : z < z' := by
  rcases Classical.em (z < z') with q | q
  · exact q
  · have := v2_mono_neg h' (Rat.not_lt.1 q); omega
theorem v2_ge0 {a b c z z' : Rat} (h : sgn (v2 (a - z) b c) = 1) (h' : sgn (v2 (a - z') b c) ≤ 0) : z < z' := by
  rcases Classical.em (z < z') with q | q
  · exact q
  · have := v2_mono_pos h (Rat.not_lt.1 q); omega
theorem v2_one {a b c : Rat} {n : Int} (h : sgn (v2 (a - ((n : Rat) + 1)) b c) ≤ 0) : 0 ≤ sgn (Re.of 1 - v2 (a - (n : Rat)) b c) := by
  have h1 : 0 ≤ sgn (-v2 (a - ((n : Rat) + 1)) b c) := by rw [sgn_neg]; omega
  refine nn_eq (fun k => ?_) h1
  simp only [v2, Re.add_s, Re.sub_s, Re.mul_s, Re.of_s, Re.neg_s]; grind
theorem lt_num {z : Rat} {n : Int} (h0 : 0 ≤ n) (h : (n : Rat) < z) : n.natAbs ≤ z.num.natAbs := by
  have h2 : ¬ z ≤ (n : Rat) := Rat.not_le.2 h
  rw [le_iff_num] at h2
  have h3 : ((n : Int) : Rat).num = n := rfl
  have h4 : (((n : Int) : Rat).den : Int) = 1 := rfl
  rw [h3, h4] at h2
  have hd := z.den_pos
  have h5 : n * 1 ≤ n * (z.den : Int) := Int.mul_le_mul_of_nonneg_left (by omega) h0
  omega
theorem bt_all {K : Int} (hK : SzI K 329) : ∀ (d : Nat) (a b c a' b' c' z : Rat), Rdc b c → Rdc b' c' → (b = 0 → c = 0) → (b' = 0 → c' = 0) → SzR c 330 → SzR c' 330 → Fit K d a b c → Fit K d a' b' c' →
    0 ≤ sgn (v2 a b c) → Btw a b c a' b' c' z → z.den ≤ d → SzI z.num 700 → SzI (z.den : Int) 700 → ∃ x, Bt a b c a' b' c' x ∧ SimpP (Btw a b c a' b' c') x := by
  intro d
  induction d with
  | zero => intro a b c a' b' c' z _ _ _ _ _ _ _ _ _ _ h; have := z.den_pos; omega
  | succ d ih =>
    intro a b c a' b' c' z hr hr' hz hz' sc sc' hf hf' h0 hb hd s1 s2
    obtain ⟨sa, sb⟩ := hf.size hK
    obtain ⟨sa', sb'⟩ := hf'.size hK
    obtain ⟨f1, _⟩ := flR_spec (a := a) (b := b) hr.1
    have f2 := flR_lt (a := a) hr
    obtain ⟨n, hn⟩ : ∃ n, flR a b c = n := ⟨_, rfl⟩
    rw [hn] at f1 f2
    have hnz : ∀ u, Btw a b c a' b' c' u → (n : Rat) < u := fun u hu => v2_le0 f1 hu.1
    have n0 : 0 ≤ n := by
      have h1 : (0 : Rat) < (n : Rat) + 1 := v2_le0 (a := a) (b := b) (c := c) (by rw [show a - 0 = a by grind]; exact h0) f2
      have h2 : ((0 : Int) : Rat) < ((n + 1 : Int) : Rat) := by rw [Rat.intCast_add, ic1]; exact h1
      have : (0 : Int) < n + 1 := by exact_mod_cast h2
      omega
    have sn : SzI n 700 := s1.le_of (lt_num n0 (hnz z hb))
    have e : Bt0 a b c a' b' c' n := ⟨sa, sb, sc, sa', sb', sc', hr, hr', hz, hz', hn, sn, by rw [two_eq hr.1, show a - 0 = a by grind]; exact h0⟩
    by_cases h1 : 0 < two (a' - ((n : Rat) + 1)) b' c'
    · refine ⟨_, .next e h1, ?_⟩
      rw [two_eq hr'.1] at h1
      have hg : Btw a b c a' b' c' ((n + 1 : Int) : Rat) := by
        rw [Rat.intCast_add, ic1]
        exact ⟨f2, by have := sgn_le_one (v2 (a' - ((n : Rat) + 1)) b' c'); omega⟩
      have := SimpP.next hg n0 hnz
      rwa [Rat.intCast_add, ic1] at this
    have h1' : sgn (v2 (a' - ((n : Rat) + 1)) b' c') ≤ 0 := by rw [two_eq hr'.1] at h1; omega
    have hz1 : ∀ u, Btw a b c a' b' c' u → u < (n : Rat) + 1 := fun u hu => v2_ge0 hu.2 h1'
    have t' : sgn (v2 (a' - (n : Rat)) b' c') = 1 := v2_mono_pos hb.2 (by have := hnz z hb; grind)
    have hs := rsS_ne hr' (by rw [t']; decide)
    have hN : nm a' b' c' n ≠ 0 := norm_ne hr' (by rw [t']; decide)
    have hF' := hf'.step hr'.1 n (by omega) (v2_one h1') rfl hN
    obtain ⟨sA, sB⟩ := hF'.size hK
    have sC : SzR (ivC a' b' c' n) 330 := rC_sz sc' (by omega)
    have hR' : Rdc (ivB a' b' c' n) (ivC a' b' c' n) := hr'.inv _
    have hP' := inv_pos hr'.1 hN t'
    -- the inverse of the greater root is not less than 1
    have hP1 : 0 ≤ sgn (v2 (ivA a' b' c' n - 1) (ivB a' b' c' n) (ivC a' b' c' n)) := by
      rw [inv_sgn hr'.1 hN t' (by decide), show (1 : Rat) / 1 = 1 by grind]; omega
    by_cases h2 : two (a - (n : Rat)) b c = 0
    · have h2' : sgn (v2 (a - (n : Rat)) b c) = 0 := by rwa [two_eq hr.1] at h2
      obtain ⟨g1, _⟩ := flR_spec (a := ivA a' b' c' n) (b := ivB a' b' c' n) hR'.1
      have g2 := flR_lt (a := ivA a' b' c' n) hR'
      have sm : SzI (flR (ivA a' b' c' n) (ivB a' b' c' n) (ivC a' b' c' n)) 1000 := (flR_sz hR').mono (by omega)
      obtain ⟨m, hm⟩ : ∃ m, flR (ivA a' b' c' n) (ivB a' b' c' n) (ivC a' b' c' n) = m := ⟨_, rfl⟩
      rw [hm] at g1 g2 sm
      have m0 : 0 ≤ m := by
        have q1 : (1 : Rat) < (m : Rat) + 1 := v2_le0 hP1 g2
        have q2 : ((1 : Int) : Rat) < ((m + 1 : Int) : Rat) := by rw [Rat.intCast_add, ic1]; exact q1
        have : (1 : Int) < m + 1 := by exact_mod_cast q2
        omega
      have mp : (0 : Rat) < (m : Rat) + 1 := by
        have : ((0 : Int) : Rat) < ((m + 1 : Int) : Rat) := by exact_mod_cast (show 0 < m + 1 by omega)
        rwa [Rat.intCast_add, ic1] at this
      refine ⟨_, .last e h1 h2 hs hN hm sA sB sC hR' sm (by grind), ?_⟩
      have hJ : ∀ w : Rat, 0 < w → (sgn (v2 (ivA a' b' c' n - w) (ivB a' b' c' n) (ivC a' b' c' n)) = -1 ↔ Btw a b c a' b' c' ((n : Rat) + 1 / w)) := by
        intro w hw
        have hwi := div_pos (show (0 : Rat) < 1 by decide) hw
        rw [inv_sgn hr'.1 hN t' hw]
        constructor
        · intro q
          refine ⟨?_, by omega⟩
          have q1 : sgn (-v2 (a - (n : Rat)) b c + Re.of (1 / w)) = 1 := by
            have := (nonneg_add (x := -v2 (a - (n : Rat)) b c) (y := Re.of (1 / w)) (by rw [sgn_neg]; omega) (nn_of.2 (Rat.le_of_lt hwi))).2.1 (.inr (by rw [sgn_of, sgnQ_pos hwi]; decide))
            exact this
          have q2 : v2 (a - ((n : Rat) + 1 / w)) b c = -(-v2 (a - (n : Rat)) b c + Re.of (1 / w)) := Re.ext fun k => by simp only [v2, Re.add_s, Re.mul_s, Re.of_s, Re.neg_s]; grind
          rw [q2, sgn_neg, q1]
        · intro q; have := q.2; omega
      have hy := SimpP.next (I := fun w => 0 < w ∧ sgn (v2 (ivA a' b' c' n - w) (ivB a' b' c' n) (ivC a' b' c' n)) = -1) (n := m) ⟨by rw [Rat.intCast_add, ic1]; exact mp, by rw [Rat.intCast_add, ic1]; exact g2⟩ m0 (fun u hu => v2_le0 g1 hu.2)
      rw [Rat.intCast_add, ic1] at hy
      obtain ⟨r1, r2⟩ := SimpP.den_step (I := Btw a b c a' b' c') (n := n) (fun w hw => ⟨fun q => (hJ w hw).1 q.2, fun q => ⟨hw, (hJ w hw).2 q⟩⟩) hnz mp hy
      exact ⟨r1, fun u hu => ⟨(r2 u hu).2 n0, (r2 u hu).1⟩⟩
    · have t : sgn (v2 (a - (n : Rat)) b c) = 1 := by
        rw [two_eq hr.1] at h2
        have := sgn_le_one (v2 (a - (n : Rat)) b c); omega
      have hs0 := rsS_ne hr (by rw [t]; decide)
      have hN0 : nm a b c n ≠ 0 := norm_ne hr (by rw [t]; decide)
      have hF := hf.step hr.1 n f1 (v2_one (by omega)) rfl hN0
      obtain ⟨sA0, sB0⟩ := hF.size hK
      have sC0 : SzR (ivC a b c n) 330 := rC_sz sc (by omega)
      have hJ : ∀ w : Rat, 0 < w → (Btw (ivA a' b' c' n) (ivB a' b' c' n) (ivC a' b' c' n) (ivA a b c n) (ivB a b c n) (ivC a b c n) w ↔ Btw a b c a' b' c' ((n : Rat) + 1 / w)) := by
        intro w hw
        unfold Btw
        rw [inv_sgn hr'.1 hN t' hw, inv_sgn hr.1 hN0 t hw]
        constructor
        · intro q; exact ⟨by omega, by omega⟩
        · intro q; exact ⟨by omega, by omega⟩
      have hJ0 : ∀ w : Rat, Btw (ivA a' b' c' n) (ivB a' b' c' n) (ivC a' b' c' n) (ivA a b c n) (ivB a b c n) (ivC a b c n) w → 0 < w := fun w hw =>
        v2_le0 (a := ivA a' b' c' n) (b := ivB a' b' c' n) (c := ivC a' b' c' n) (by rw [show ivA a' b' c' n - 0 = ivA a' b' c' n by grind]; omega) hw.1
      obtain ⟨w0, w1, w2, w3⟩ := step_den (hnz z hb) (hz1 z hb)
      have hw := (hJ _ w0).2 (by rw [w1]; exact hb)
      obtain ⟨y, y1, y2⟩ := ih _ _ _ _ _ _ _ hR' (hr.inv _) (fun q => rC_z q) (fun q => rC_z q) sC sC0 hF' hF (nn_1 hP') hw (by omega) (s2.le_of (by omega)) (s2.le_of (by omega))
      have yp := hJ0 y y2.1
      obtain ⟨v1, v2'⟩ := y2.2 _ hw
      have yn := num_pos_iff.2 yp
      have sy : SzR y 1000 := ⟨(s2.le_of (x := y.num) (by omega)).mono (by omega), (s2.le_of (x := (y.den : Int)) (by omega)).mono (by omega)⟩
      refine ⟨_, .step e h1 h2 hs hN hs0 hN0 sA sB sC sA0 sB0 sC0 sy (by grind) y1, ?_⟩
      obtain ⟨r1, r2⟩ := SimpP.den_step (I := Btw a b c a' b' c') (n := n) hJ hnz yp y2
      exact ⟨r1, fun u hu => ⟨(r2 u hu).2 n0, (r2 u hu).1⟩⟩
end Go.PL

set_option linter.unusedSimpArgs false
set_option linter.unusedVariables false
namespace Go.PL
open Go.RL
instance SzI.floor {q : Rat} {k : Nat} [h : SzR q k] : SzI q.floor k := by rw [Rat.floor_def]; exact SzI.div'
theorem ia (x y : Int) : (x : Rat) + (y : Rat) = ((x + y : Int) : Rat) := (Rat.intCast_add x y).symm
theorem i1a (x : Int) : (x : Rat) + 1 = ((x + 1 : Int) : Rat) := by rw [Rat.intCast_add, ic1]
theorem i1s (x : Int) : (x : Rat) - 1 = ((x - 1 : Int) : Rat) := by rw [Rat.intCast_sub, ic1]
theorem fl_le1 {a b c : Rat} {u : Int} (h : Rdc b c) (hu : u ≤ flR a b c) : 0 ≤ two (a - (u : Rat)) b c := by
  obtain ⟨f1, _⟩ := flR_spec (a := a) (b := b) h.1
  rw [two_eq h.1]
  have h1 : (u : Rat) ≤ ((flR a b c : Int) : Rat) := by exact_mod_cast hu
  generalize ((flR a b c : Int) : Rat) = f at *
  refine nn_eq (fun k => ?_) (nn_add f1 (nn_of.2 (show 0 ≤ f - (u : Rat) by grind)))
  simp only [v2, Re.add_s, Re.mul_s, Re.of_s]; grind
theorem fl_lt1 {a b c : Rat} {u : Int} (h : Rdc b c) (hu : flR a b c < u) : two (a - (u : Rat)) b c = -1 := by
  have f2 := flR_lt (a := a) h
  rw [two_eq h.1]
  refine v2_mono_neg f2 ?_
  rw [i1a]; exact_mod_cast (show flR a b c + 1 ≤ u by omega)
theorem two_ltf {a b c : Rat} {u : Int} (h : Rdc b c) : (two (a - (u : Rat)) b c < 0) = (flR a b c < u) := by
  apply propext
  constructor
  · intro q
    rcases Int.lt_or_le (flR a b c) u with k | k
    · exact k
    · have := fl_le1 h k; omega
  · intro q; have := fl_lt1 h q; omega
theorem two_gef {a b c : Rat} {u : Int} (h : Rdc b c) : (0 ≤ two (a - (u : Rat)) b c) = (u ≤ flR a b c) := by
  have := two_ltf (a := a) (u := u) h
  apply propext
  constructor
  · intro q
    rcases Int.lt_or_le (flR a b c) u with k | k
    · rw [← this] at k; omega
    · exact k
  · intro q; exact fl_le1 h q
theorem szi_dn {u f : Int} {k : Nat} (h : SzI u k) (hf : SzI f k) (hu : f < u) : SzI (u - 1) k := by
  by_cases q : 0 ≤ u - 1
  · exact h.le_of (by omega)
  · exact hf.le_of (by omega)
theorem szi_up {u f : Int} {k : Nat} (h : SzI u k) (hf : SzI f k) (hu : u + 1 ≤ f) : SzI (u + 1) k := by
  by_cases q : u + 1 ≤ 0
  · exact h.le_of (by omega)
  · exact hf.le_of (by omega)
theorem floor_nn {q : Rat} (h : 0 ≤ q) : 0 ≤ q.floor := by
  have h1 := lt_fl q
  have h2 : ((0 : Int) : Rat) < ((q.floor + 1 : Int) : Rat) := by rw [Rat.intCast_add, ic1]; exact Std.lt_of_le_of_lt h h1
  have : (0 : Int) < q.floor + 1 := by exact_mod_cast h2
  omega
theorem sq_nnR (b : Rat) : 0 ≤ b * b := by
  by_cases q : 0 ≤ b
  · exact Rat.mul_nonneg q q
  · have := Rat.mul_nonneg (show (0 : Rat) ≤ -b by grind) (show (0 : Rat) ≤ -b by grind); grind
theorem div_mul1 (x y : Rat) : x / y = x * (1 / y) := by rw [Rat.div_def, Rat.div_def, Rat.one_mul]
theorem sub0 (x : Rat) : x - 0 = x := by grind
theorem invC {b c i : Rat} (z : b = 0 → c = 0) (hi : i ≠ 0) : rC (-b * i) c = c := by
  by_cases q : b = 0
  · rw [z q, q]; unfold rC; split <;> rfl
  · refine rC_n fun k => ?_
    rcases Rat.mul_eq_zero.1 k with k | k
    · exact q (by grind)
    · exact hi k
theorem inv_ne {x : Rat} (h : x ≠ 0) : 1 / x ≠ 0 := fun q => by
  have : 1 / x * x = 1 := Rat.div_mul_cancel h
  rw [q] at this; grind
end Go.PL

set_option linter.unusedSimpArgs false
set_option linter.unusedVariables false
set_option maxRecDepth 20000
namespace Go.Proofs.YtdojhoegildiaaaGreat
open Go Go.PL Go.RL
theorem r_between {a b c a' b' c' x : Rat} (h : Bt a b c a' b' c' x) : Ret Tryz.prog 59 [.a (ratC (a) ++ (ratC (b) ++ ratC (c))), .a (ratC (a') ++ (ratC (b') ++ ratC (c')))] (.e (.a (ratC x))) := by
  induction h with
  | next e h1 => haveI := e.sa; haveI := e.sb; haveI := e.sc; haveI := e.sa'; haveI := e.sb'; haveI := e.sc'; haveI := e.sn; exact c_between_1 _ _ _ _ _ _ e.hc.1 e.hc'.1 _ e.hn h1
  | last e h1 h2 hs hN hm sA sB sC hr sm hy => haveI := e.sa; haveI := e.sb; haveI := e.sc; haveI := e.sa'; haveI := e.sb'; haveI := e.sc'; haveI := e.sn; exact c_between_2 _ _ _ _ _ _ e.hc.1 e.hc'.1 _ e.hn h1 h2 hs hN _ hm hy
  | step e h1 h2 hs hN hs' hN' sA sB sC sA' sB' sC' sy hy r ih => haveI := e.sa; haveI := e.sb; haveI := e.sc; haveI := e.sa'; haveI := e.sb'; haveI := e.sc'; haveI := e.sn; exact c_between_3 _ _ _ _ _ _ e.hc.1 e.hc'.1 _ e.hn h1 h2 hs hN hs' hN' _ hy ih
set_option maxHeartbeats 4000000 in
theorem c_Between_1 (a b c a' b' c' : Rat) [SzR a 2] [SzR b 2] [SzR c 2] [SzR a' 2] [SzR b' 2] [SzR c' 2] (hc : 0 ≤ c) (hc' : 0 ≤ c') (h : ¬ 0 ≤ cmpR a b c a' b' c') (h1 : two (a - 0) b c < 0) (h2 : 0 < two (a' - 0) b' c') :
    Ret Tryz.prog 23 [.a (ratC (a) ++ (ratC (b) ++ ratC (c))), .a (ratC (a') ++ (ratC (b') ++ ratC (c')))] (.t [.a (ratC 0), .c (.int .i64 0)]) := by
  refine ret_of_body (md := {}) Tryz.func23 (by kernel_rfl) rfl ?_
  simp only [Tryz.f23, List.map_cons, List.map_nil, List.length_cons, List.length_nil, Nat.zero_add, Nat.reduceAdd, Nat.reduceSub, List.reduceReplicate, List.cons_append, List.nil_append]
  refine pwx_sr 3 [] (by rfl) (fun K1 hK1 => ?_)
  simp (disch := omega) only [go_sem, ex_i0]
  refine hK1 _ ?_
  clear hK1 K1
  refine pwp_seq ?_
  refine pwx_sr 0 [] (by rfl) (fun K2 hK2 => ?_)
  refine rgnX_take 3 (fun K3 hK3 => ?_)
  simp (disch := omega) only [go_sem, ex_i0, h, decide_false]
  refine ⟨_, c_radical_Cmp _ _ _ _ _ _ (by omega) (by assumption) (by assumption), ?_⟩
  refine hK3 _ ?_
  simp (disch := omega) only [go_sem, ex_i0, h, decide_false]
  refine hK2 _ ?_
  clear hK3 K3 hK2 K2
  refine pwp_cond (b := false) (by rfl) (fun h => nomatch h) (fun _ => ?_)
  refine pwp_skip ?_
  refine n_then ?_
  refine pwx_sr 1 [] (by rfl) (fun K4 hK4 => ?_)
  refine rgnX_take 1 (fun K5 hK5 => ?_)
  simp (disch := omega) only [go_sem, ex_i0]
  refine ⟨_, c_rational_FromInt64 _ (by omega) (by omega), ?_⟩
  refine hK5 _ ?_
  simp (disch := omega) only [go_sem, ex_i0]
  refine hK4 _ ?_
  clear hK5 K5 hK4 K4
  refine pwp_seq ?_
  refine pwp_block ?_
  refine pwx_sr 0 [some 14, some 15, some 16, some 17, some 18, some 19, some 20, some 21, some 22, some 23, some 13] (by rfl) (fun K6 hK6 => ?_)
  refine rgnX_take 3 (fun K7 hK7 => ?_)
  simp (disch := omega) only [go_sem, ex_i0, h1, h2, decide_true]
  refine ⟨_, c_radical_CmpRat _ _ _ _ (by omega) (by assumption), ?_⟩
  refine hK7 _ ?_
  refine rgnX_take 5 (fun K8 hK8 => ?_)
  simp (disch := omega) only [go_sem, ex_i0, h1, h2, decide_true]
  first | refine ⟨_, c_radical_CmpRat _ _ _ _ (by omega) (by assumption), ?_⟩ | skip
  refine hK8 _ ?_
  simp (disch := omega) only [go_sem, ex_i0, h1, h2, decide_true]
  refine hK6 _ ?_
  clear hK8 K8 hK7 K7 hK6 K6
  refine pwp_cond (b := true) (by rfl) (fun _ => ?_) (fun h => nomatch h)
  refine pwx_sr 0 [] (by rfl) (fun K9 hK9 => ?_)
  simp (disch := omega) only [go_sem, ex_i0]
  refine hK9 _ ?_
  clear hK9 K9
  refine pwp_ret ?_
  refine r_block ?_
  refine r_then ?_
  refine ⟨Or.inr rfl, ?_⟩
  simp (disch := omega) only [go_sem, ex_i0]
set_option maxHeartbeats 4000000 in
theorem c_Between_2 (a b c a' b' c' : Rat) [SzR a 2] [SzR b 2] [SzR c 2] [SzR a' 2] [SzR b' 2] [SzR c' 2] (hc : 0 ≤ c) (hc' : 0 ≤ c') (h : ¬ 0 ≤ cmpR a b c a' b' c') (h2 : ¬ 0 < two (a' - 0) b' c') (h3 : two (a' - 0) b' c' ≤ 0) (y : Rat) [SzR y 700] (hy : Ret Tryz.prog 59 [.a (ratC (-a') ++ (ratC (-b') ++ ratC (c'))), .a (ratC (-a) ++ (ratC (-b) ++ ratC (c)))] (.e (.a (ratC y)))) :
    Ret Tryz.prog 23 [.a (ratC (a) ++ (ratC (b) ++ ratC (c))), .a (ratC (a') ++ (ratC (b') ++ ratC (c')))] (.t [.a (ratC (-y)), .c (.int .i64 0)]) := by
  refine ret_of_body (md := {}) Tryz.func23 (by kernel_rfl) rfl ?_
  simp only [Tryz.f23, List.map_cons, List.map_nil, List.length_cons, List.length_nil, Nat.zero_add, Nat.reduceAdd, Nat.reduceSub, List.reduceReplicate, List.cons_append, List.nil_append]
  refine pwx_sr 3 [] (by rfl) (fun K1 hK1 => ?_)
  simp (disch := omega) only [go_sem, ex_i0]
  refine hK1 _ ?_
  clear hK1 K1
  refine pwp_seq ?_
  refine pwx_sr 0 [] (by rfl) (fun K2 hK2 => ?_)
  refine rgnX_take 3 (fun K3 hK3 => ?_)
  simp (disch := omega) only [go_sem, ex_i0, h, decide_false]
  refine ⟨_, c_radical_Cmp _ _ _ _ _ _ (by omega) (by assumption) (by assumption), ?_⟩
  refine hK3 _ ?_
  simp (disch := omega) only [go_sem, ex_i0, h, decide_false]
  refine hK2 _ ?_
  clear hK3 K3 hK2 K2
  refine pwp_cond (b := false) (by rfl) (fun h => nomatch h) (fun _ => ?_)
  refine pwp_skip ?_
  refine n_then ?_
  refine pwx_sr 1 [] (by rfl) (fun K4 hK4 => ?_)
  refine rgnX_take 1 (fun K5 hK5 => ?_)
  simp (disch := omega) only [go_sem, ex_i0]
  refine ⟨_, c_rational_FromInt64 _ (by omega) (by omega), ?_⟩
  refine hK5 _ ?_
  simp (disch := omega) only [go_sem, ex_i0]
  refine hK4 _ ?_
  clear hK5 K5 hK4 K4
  refine pwp_seq ?_
  refine pwp_block ?_
  by_cases h1 : two (a - 0) b c < 0
  · refine pwx_sr 0 [some 14, some 15, some 16, some 17, some 18, some 19, some 20, some 21, some 22, some 23, some 13] (by rfl) (fun K6 hK6 => ?_)
    refine rgnX_take 3 (fun K7 hK7 => ?_)
    simp (disch := omega) only [go_sem, ex_i0, h1, h2, decide_false]
    refine ⟨_, c_radical_CmpRat _ _ _ _ (by omega) (by assumption), ?_⟩
    refine hK7 _ ?_
    refine rgnX_take 5 (fun K8 hK8 => ?_)
    simp (disch := omega) only [go_sem, ex_i0, h1, h2, decide_false]
    first | refine ⟨_, c_radical_CmpRat _ _ _ _ (by omega) (by assumption), ?_⟩ | skip
    refine hK8 _ ?_
    simp (disch := omega) only [go_sem, ex_i0, h1, h2, decide_false]
    refine hK6 _ ?_
    clear hK8 K8 hK7 K7 hK6 K6
    refine pwp_cond (b := false) (by rfl) (fun h => nomatch h) (fun _ => ?_)
    refine pwx_sr 0 [] (by rfl) (fun K9 hK9 => ?_)
    refine rgnX_take 3 (fun K10 hK10 => ?_)
    simp (disch := omega) only [go_sem, ex_i0, h3, decide_true]
    refine ⟨_, c_radical_CmpRat _ _ _ _ (by omega) (by assumption), ?_⟩
    refine hK10 _ ?_
    simp (disch := omega) only [go_sem, ex_i0, h3, decide_true]
    refine hK9 _ ?_
    clear hK10 K10 hK9 K9
    refine pwp_cond (b := true) (by rfl) (fun _ => ?_) (fun h => nomatch h)
    refine pwx_sd Tryz.mixed 0 [] (by rfl) [] (by kernel_rfl) (by simp) (fun K11 hK11 => ?_)
    refine rgnX_take 2 (fun K12 hK12 => ?_)
    simp (disch := omega) only [go_sem, ex_i0]
    refine ⟨_, c_root_Neg _ _ _ (by omega), ?_⟩
    refine hK12 _ ?_
    refine rgnX_take 2 (fun K13 hK13 => ?_)
    simp (disch := omega) only [go_sem, ex_i0]
    refine ⟨_, c_root_Neg _ _ _ (by omega), ?_⟩
    refine hK13 _ ?_
    refine rgnX_take 1 (fun K14 hK14 => ?_)
    simp (disch := omega) only [go_sem, ex_i0]
    refine ⟨_, hy, ?_⟩
    refine hK14 _ ?_
    refine rgnX_take 1 (fun K15 hK15 => ?_)
    simp (disch := omega) only [go_sem, ex_i0]
    refine ⟨_, c_rational_Neg _ (by omega), ?_⟩
    refine hK15 _ ?_
    simp (disch := omega) only [go_sem, ex_i0]
    refine hK11 _ ?_
    clear hK15 K15 hK14 K14 hK13 K13 hK12 K12 hK11 K11
    refine pwp_ret ?_
    refine r_block ?_
    refine r_then ?_
    refine ⟨Or.inr rfl, ?_⟩
    simp (disch := omega) only [go_sem, ex_i0]
    all_goals first | rfl | exact ⟨rfl, rfl⟩ | simp
  · refine pwx_sr 0 [some 14, some 15, some 16, some 17, some 18, some 19, some 20, some 21, some 22, some 23, some 13] (by rfl) (fun K16 hK16 => ?_)
    refine rgnX_take 3 (fun K17 hK17 => ?_)
    simp (disch := omega) only [go_sem, ex_i0, h1, h2, decide_false]
    refine ⟨_, c_radical_CmpRat _ _ _ _ (by omega) (by assumption), ?_⟩
    refine hK17 _ ?_
    refine rgnX_take 5 (fun K18 hK18 => ?_)
    simp (disch := omega) only [go_sem, ex_i0, h1, h2, decide_false]
    first | refine ⟨_, c_radical_CmpRat _ _ _ _ (by omega) (by assumption), ?_⟩ | skip
    refine hK18 _ ?_
    simp (disch := omega) only [go_sem, ex_i0, h1, h2, decide_false]
    refine hK16 _ ?_
    clear hK18 K18 hK17 K17 hK16 K16
    refine pwp_cond (b := false) (by rfl) (fun h => nomatch h) (fun _ => ?_)
    refine pwx_sr 0 [] (by rfl) (fun K19 hK19 => ?_)
    refine rgnX_take 3 (fun K20 hK20 => ?_)
    simp (disch := omega) only [go_sem, ex_i0, h3, decide_true]
    refine ⟨_, c_radical_CmpRat _ _ _ _ (by omega) (by assumption), ?_⟩
    refine hK20 _ ?_
    simp (disch := omega) only [go_sem, ex_i0, h3, decide_true]
    refine hK19 _ ?_
    clear hK20 K20 hK19 K19
    refine pwp_cond (b := true) (by rfl) (fun _ => ?_) (fun h => nomatch h)
    refine pwx_sd Tryz.mixed 0 [] (by rfl) [] (by kernel_rfl) (by simp) (fun K21 hK21 => ?_)
    refine rgnX_take 2 (fun K22 hK22 => ?_)
    simp (disch := omega) only [go_sem, ex_i0]
    refine ⟨_, c_root_Neg _ _ _ (by omega), ?_⟩
    refine hK22 _ ?_
    refine rgnX_take 2 (fun K23 hK23 => ?_)
    simp (disch := omega) only [go_sem, ex_i0]
    refine ⟨_, c_root_Neg _ _ _ (by omega), ?_⟩
    refine hK23 _ ?_
    refine rgnX_take 1 (fun K24 hK24 => ?_)
    simp (disch := omega) only [go_sem, ex_i0]
    refine ⟨_, hy, ?_⟩
    refine hK24 _ ?_
    refine rgnX_take 1 (fun K25 hK25 => ?_)
    simp (disch := omega) only [go_sem, ex_i0]
    refine ⟨_, c_rational_Neg _ (by omega), ?_⟩
    refine hK25 _ ?_
    simp (disch := omega) only [go_sem, ex_i0]
    refine hK21 _ ?_
    clear hK25 K25 hK24 K24 hK23 K23 hK22 K22 hK21 K21
    refine pwp_ret ?_
    refine r_block ?_
    refine r_then ?_
    refine ⟨Or.inr rfl, ?_⟩
    simp (disch := omega) only [go_sem, ex_i0]
    all_goals first | rfl | exact ⟨rfl, rfl⟩ | simp
set_option maxHeartbeats 4000000 in
theorem c_Between_3 (a b c a' b' c' : Rat) [SzR a 2] [SzR b 2] [SzR c 2] [SzR a' 2] [SzR b' 2] [SzR c' 2] (hc : 0 ≤ c) (hc' : 0 ≤ c') (h : ¬ 0 ≤ cmpR a b c a' b' c') (h1 : ¬ two (a - 0) b c < 0) (h3 : ¬ two (a' - 0) b' c' ≤ 0) (y : Rat) [SzR y 700] (hy : Ret Tryz.prog 59 [.a (ratC (a) ++ (ratC (b) ++ ratC (c))), .a (ratC (a') ++ (ratC (b') ++ ratC (c')))] (.e (.a (ratC y)))) :
    Ret Tryz.prog 23 [.a (ratC (a) ++ (ratC (b) ++ ratC (c))), .a (ratC (a') ++ (ratC (b') ++ ratC (c')))] (.t [.a (ratC y), .c (.int .i64 0)]) := by
  refine ret_of_body (md := {}) Tryz.func23 (by kernel_rfl) rfl ?_
  simp only [Tryz.f23, List.map_cons, List.map_nil, List.length_cons, List.length_nil, Nat.zero_add, Nat.reduceAdd, Nat.reduceSub, List.reduceReplicate, List.cons_append, List.nil_append]
  refine pwx_sr 3 [] (by rfl) (fun K1 hK1 => ?_)
  simp (disch := omega) only [go_sem, ex_i0]
  refine hK1 _ ?_
  clear hK1 K1
  refine pwp_seq ?_
  refine pwx_sr 0 [] (by rfl) (fun K2 hK2 => ?_)
  refine rgnX_take 3 (fun K3 hK3 => ?_)
  simp (disch := omega) only [go_sem, ex_i0, h, decide_false]
  refine ⟨_, c_radical_Cmp _ _ _ _ _ _ (by omega) (by assumption) (by assumption), ?_⟩
  refine hK3 _ ?_
  simp (disch := omega) only [go_sem, ex_i0, h, decide_false]
  refine hK2 _ ?_
  clear hK3 K3 hK2 K2
  refine pwp_cond (b := false) (by rfl) (fun h => nomatch h) (fun _ => ?_)
  refine pwp_skip ?_
  refine n_then ?_
  refine pwx_sr 1 [] (by rfl) (fun K4 hK4 => ?_)
  refine rgnX_take 1 (fun K5 hK5 => ?_)
  simp (disch := omega) only [go_sem, ex_i0]
  refine ⟨_, c_rational_FromInt64 _ (by omega) (by omega), ?_⟩
  refine hK5 _ ?_
  simp (disch := omega) only [go_sem, ex_i0]
  refine hK4 _ ?_
  clear hK5 K5 hK4 K4
  refine pwp_seq ?_
  refine pwp_block ?_
  refine pwx_sr 0 [some 14, some 15, some 16, some 17, some 18, some 19, some 20, some 21, some 22, some 23, some 13] (by rfl) (fun K6 hK6 => ?_)
  refine rgnX_take 3 (fun K7 hK7 => ?_)
  simp (disch := omega) only [go_sem, ex_i0, h1, decide_false]
  refine ⟨_, c_radical_CmpRat _ _ _ _ (by omega) (by assumption), ?_⟩
  refine hK7 _ ?_
  refine rgnX_take 5 (fun K8 hK8 => ?_)
  simp (disch := omega) only [go_sem, ex_i0, h1, decide_false]
  first | refine ⟨_, c_radical_CmpRat _ _ _ _ (by omega) (by assumption), ?_⟩ | skip
  refine hK8 _ ?_
  simp (disch := omega) only [go_sem, ex_i0, h1, decide_false]
  refine hK6 _ ?_
  clear hK8 K8 hK7 K7 hK6 K6
  refine pwp_cond (b := false) (by rfl) (fun h => nomatch h) (fun _ => ?_)
  refine pwx_sr 0 [] (by rfl) (fun K9 hK9 => ?_)
  refine rgnX_take 3 (fun K10 hK10 => ?_)
  simp (disch := omega) only [go_sem, ex_i0, h3, decide_false]
  refine ⟨_, c_radical_CmpRat _ _ _ _ (by omega) (by assumption), ?_⟩
  refine hK10 _ ?_
  simp (disch := omega) only [go_sem, ex_i0, h3, decide_false]
  refine hK9 _ ?_
  clear hK10 K10 hK9 K9
  refine pwp_cond (b := false) (by rfl) (fun h => nomatch h) (fun _ => ?_)
  refine pwp_skip ?_
  refine n_block ?_
  refine n_then ?_
  refine pwx_sr 0 [] (by rfl) (fun K11 hK11 => ?_)
  refine rgnX_take 3 (fun K12 hK12 => ?_)
  simp (disch := omega) only [go_sem, ex_i0]
  refine ⟨_, hy, ?_⟩
  refine hK12 _ ?_
  simp (disch := omega) only [go_sem, ex_i0]
  refine hK11 _ ?_
  clear hK12 K12 hK11 K11
  refine pwp_ret ?_
  refine ⟨Or.inr rfl, ?_⟩
  simp (disch := omega) only [go_sem, ex_i0]

end Go.Proofs.YtdojhoegildiaaaGreat

set_option linter.unusedSimpArgs false
set_option linter.unusedVariables false
set_option maxRecDepth 20000
namespace Go.Proofs.YtdojhoegildiaaaGreat
open Go Go.PL Go.RL
set_option maxHeartbeats 4000000 in
theorem c_swarfref05_Floor (a b c : Rat) [SzR a 330] [SzR b 330] [SzR c 330] (hr : Rdc b c) :
    Ret Tryz.prog 31 [.a (ratC (a) ++ (ratC (b) ++ ratC (c)))] (.e (.a (ratC ((flR a b c : Int) : Rat)))) := by
  refine ret_of_body (md := {}) Tryz.func31 (by kernel_rfl) rfl ?_
  simp only [Tryz.f31, List.map_cons, List.map_nil, List.length_cons, List.length_nil, Nat.zero_add, Nat.reduceAdd, Nat.reduceSub, List.reduceReplicate, List.cons_append, List.nil_append]
  have hF : SzI (flR a b c) 996 := (flR_sz hr).mono (by omega)
  have h0 : 0 ≤ (b * b * c).floor := floor_nn (Rat.mul_nonneg (sq_nnR b) hr.1)
  refine pwx_sr 2 [] (by rfl) (fun K1 hK1 => ?_)
  simp (disch := omega) only [go_sem, nr_1, ia, i1a, i1s]
  refine hK1 _ ?_
  clear hK1 K1
  refine pwx_sd Tryz.mixed 1 [] (by rfl) [] (by kernel_rfl) (by simp) (fun K2 hK2 => ?_)
  refine rgnX_take 5 (fun K3 hK3 => ?_)
  simp (disch := omega) only [go_sem, nr_1, ia, i1a, i1s]
  refine ⟨_, c_swarfref02_Mul _ _ (by omega), ?_⟩
  refine hK3 _ ?_
  refine rgnX_take 3 (fun K4 hK4 => ?_)
  simp (disch := omega) only [go_sem, nr_1, ia, i1a, i1s]
  refine ⟨_, c_swarfref02_Mul _ _ (by omega), ?_⟩
  refine hK4 _ ?_
  refine rgnX_take 1 (fun K5 hK5 => ?_)
  simp (disch := omega) only [go_sem, nr_1, ia, i1a, i1s]
  refine ⟨_, c_swarfref02_Floor _ (by omega), ?_⟩
  refine hK5 _ ?_
  refine rgnX_take 1 (fun K6 hK6 => ?_)
  simp (disch := omega) only [go_sem, nr_1, ia, i1a, i1s]
  refine ⟨_, c_swarfref01_Sqrt _ szi9, ?_⟩
  refine hK6 _ ?_
  simp (disch := omega) only [go_sem, nr_1, ia, i1a, i1s]
  refine hK2 _ ?_
  clear hK6 K6 hK5 K5 hK4 K4 hK3 K3 hK2 K2
  refine pwp_join (false :: true :: true :: true :: false :: false :: false :: false :: false :: false :: false :: false :: false :: false :: false :: false :: false :: false :: false :: false :: false :: false :: false :: false :: false :: false :: false :: false :: false :: false :: false :: false :: false :: false :: false :: false :: false :: false :: false :: false :: false :: false :: false :: false :: false :: false :: false :: false :: false :: false :: false :: []) 3 (fun s => ∃ q : Int, (SzI q 991) ∧ s = { slots := .j :: .e (.c (.ptr 0 0)) :: .e (.c (.ptr 1 0)) :: .e (.c (.ptr 2 0)) :: .j :: .j :: .j :: .j :: .j :: .j :: .j :: .j :: .j :: .j :: .j :: .j :: .j :: .j :: .j :: .j :: .j :: .j :: .j :: .j :: .j :: .j :: .j :: .j :: .j :: .j :: .j :: .j :: .j :: .j :: .j :: .j :: .j :: .j :: .j :: .j :: .j :: .j :: .j :: .j :: .j :: .j :: .j :: .j :: .j :: .j :: .j :: [], st := [.live (ratC a ++ (ratC b ++ ratC c)), .live [.bool false, .nils, .bool false, .nils], .live (intC q)] }) rfl ?_ ?_
  · refine pwx_sr 0 [] (by rfl) (fun K7 hK7 => ?_)
    refine rgnX_take 3 (fun K8 hK8 => ?_)
    simp (disch := omega) only [go_sem, nr_1, ia, i1a, i1s]
    refine ⟨_, c_swarfref02_Sign _, ?_⟩
    refine hK8 _ ?_
    simp (disch := omega) only [go_sem, nr_1, ia, i1a, i1s]
    refine hK7 _ ?_
    clear hK8 K8 hK7 K7
    refine pwp_cond (b := _) (by rfl) (fun hb0 => ?_) (fun hb0 => ?_)
    · first | replace hb0 := of_decide_eq_true hb0 | replace hb0 := of_decide_eq_false hb0 | skip
      refine pwx_region 0 [] (by rfl) (fun K9 hK9 => ?_)
      refine rgnX_take 2 (fun K10 hK10 => ?_)
      simp (disch := omega) only [go_sem, nr_1, ia, i1a, i1s]
      refine ⟨_, c_swarfref01_Neg _ szi, ?_⟩
      refine hK10 _ ?_
      simp (disch := omega) only [go_sem, nr_1, ia, i1a, i1s]
      refine hK9 _ ?_
      clear hK10 K10 hK9 K9
      refine n_then ?_
      refine ⟨⟨-(sqrtI (b * b * c).floor), ?hf0, ?heq⟩, ?hok⟩
      case heq => first | rfl | (simp only [St.cut, keep, if_true, if_false, Bool.false_eq_true, List.take_succ_cons, List.take_zero, List.take_nil]; try simp)
      case hf0 => exact (inferInstance : SzI _ _).mono (by omega)
      case hok => refine ⟨rfl, ?_, ?_⟩ <;> first | rfl | (simp [keep, PV.lt, PE.lt, PC.lt, Box.lt, ↓lC_lt]; done) | simp [keep, PV.lt, PE.lt, PC.lt, Box.lt, ↓lC_lt, ↓intC_lt, ↓ratC_lt, ↓u32s_lt]
    · first | replace hb0 := of_decide_eq_true hb0 | replace hb0 := of_decide_eq_false hb0 | skip
      refine pwp_skip ?_
      refine n_then ?_
      refine ⟨⟨sqrtI (b * b * c).floor, ?hf0, ?heq⟩, ?hok⟩
      case heq => first | rfl | (simp only [St.cut, keep, if_true, if_false, Bool.false_eq_true, List.take_succ_cons, List.take_zero, List.take_nil]; try simp)
      case hf0 => exact (inferInstance : SzI _ _).mono (by omega)
      case hok => refine ⟨rfl, ?_, ?_⟩ <;> first | rfl | (simp [keep, PV.lt, PE.lt, PC.lt, Box.lt, ↓lC_lt]; done) | simp [keep, PV.lt, PE.lt, PC.lt, Box.lt, ↓lC_lt, ↓intC_lt, ↓ratC_lt, ↓u32s_lt]
  · rintro _ ⟨q, hq, rfl⟩
    refine pwx_sr 1 [] (by rfl) (fun K11 hK11 => ?_)
    refine rgnX_take 1 (fun K12 hK12 => ?_)
    simp (disch := omega) only [go_sem, nr_1, ia, i1a, i1s]
    refine ⟨_, c_swarfref02_FromInt64 _ (by omega) (by omega), ?_⟩
    refine hK12 _ ?_
    simp (disch := omega) only [go_sem, nr_1, ia, i1a, i1s]
    refine hK11 _ ?_
    clear hK12 K12 hK11 K11
    refine pwx_sd Tryz.mixed 1 [] (by rfl) [] (by kernel_rfl) (by simp) (fun K13 hK13 => ?_)
    refine rgnX_take 3 (fun K14 hK14 => ?_)
    simp (disch := omega) only [go_sem, nr_1, ia, i1a, i1s]
    refine ⟨_, c_swarfref02_Floor _ (by omega), ?_⟩
    refine hK14 _ ?_
    refine rgnX_take 1 (fun K15 hK15 => ?_)
    simp (disch := omega) only [go_sem, nr_1, ia, i1a, i1s]
    refine ⟨_, c_swarfref05_whole _, ?_⟩
    refine hK15 _ ?_
    refine rgnX_take 2 (fun K16 hK16 => ?_)
    simp (disch := omega) only [go_sem, nr_1, ia, i1a, i1s]
    refine ⟨_, c_swarfref05_whole _, ?_⟩
    refine hK16 _ ?_
    refine rgnX_take 1 (fun K17 hK17 => ?_)
    simp (disch := omega) only [go_sem, nr_1, ia, i1a, i1s]
    refine ⟨_, c_swarfref02_Add _ _ (by omega), ?_⟩
    refine hK17 _ ?_
    simp (disch := omega) only [go_sem, nr_1, ia, i1a, i1s]
    refine hK13 _ ?_
    clear hK17 K17 hK16 K16 hK15 K15 hK14 K14 hK13 K13
    refine pwp_seq ?_
    refine pwp_block ?_
    refine pwp_loopF (false :: true :: true :: false :: false :: true :: true :: false :: false :: false :: false :: false :: false :: false :: false :: false :: false :: false :: false :: false :: false :: false :: false :: false :: false :: false :: false :: false :: false :: false :: false :: false :: false :: false :: false :: false :: false :: false :: false :: false :: false :: false :: false :: false :: false :: false :: false :: false :: false :: false :: false :: []) 5 (fun M s => ∃ u : Int, (SzI u 996) ∧ (u - flR a b c).toNat = M ∧ s = { slots := .j :: .e (.c (.ptr 0 0)) :: .e (.c (.ptr 1 0)) :: .j :: .j :: .e (.c (.ptr 3 0)) :: .e (.c (.ptr 4 0)) :: .j :: .j :: .j :: .j :: .j :: .j :: .j :: .j :: .j :: .j :: .j :: .j :: .j :: .j :: .j :: .j :: .j :: .j :: .j :: .j :: .j :: .j :: .j :: .j :: .j :: .j :: .j :: .j :: .j :: .j :: .j :: .j :: .j :: .j :: .j :: .j :: .j :: .j :: .j :: .j :: .j :: .j :: .j :: .j :: [], st := [.live (ratC a ++ (ratC b ++ ratC c)), .live [.bool false, .nils, .bool false, .nils], .live (intC q), .live (ratC 1), .live (ratC (u : Rat))] }) (n := (a.floor + q - flR a b c).toNat) rfl ?_ ?_ ?_
    · refine ⟨a.floor + q, ?_, rfl, ?_⟩
      · exact (inferInstance : SzI _ _).mono (by omega)
      · first | rfl | (simp only [St.cut, keep, if_true, if_false, Bool.false_eq_true, List.take_succ_cons, List.take_zero, List.take_nil]; try simp)
    · refine ⟨rfl, ?_, ?_⟩ <;> first | rfl | (simp [keep, PV.lt, PE.lt, PC.lt, Box.lt, ↓lC_lt]; done) | simp [keep, PV.lt, PE.lt, PC.lt, Box.lt, ↓lC_lt, ↓intC_lt, ↓ratC_lt, ↓u32s_lt]
    · rintro _ _ ⟨u, hu, rfl, rfl⟩
      refine pwp_seq ?_
      refine pwx_sr 0 [] (by rfl) (fun K18 hK18 => ?_)
      refine rgnX_take 3 (fun K19 hK19 => ?_)
      simp (disch := omega) only [go_sem, nr_1, ia, i1a, i1s]
      refine ⟨_, c_swarfref05_CmpRat _ _ _ _ (by omega), ?_⟩
      refine hK19 _ ?_
      simp (disch := omega) only [go_sem, nr_1, ia, i1a, i1s]
      refine hK18 _ ?_
      clear hK19 K19 hK18 K18
      refine pwp_cond (b := _) (by rfl) (fun hb1 => ?_) (fun hb1 => ?_)
      · replace hb1 := of_decide_eq_true hb1
        rw [two_ltf hr] at hb1
        refine pwp_skip ?_
        refine n_then ?_
        refine pwp_block ?_
        refine pwx_region 0 [] (by rfl) (fun K20 hK20 => ?_)
        refine rgnX_take 3 (fun K21 hK21 => ?_)
        simp (disch := omega) only [go_sem, nr_1, ia, i1a, i1s]
        refine ⟨_, c_swarfref02_Sub _ _ (by omega), ?_⟩
        refine hK21 _ ?_
        simp (disch := omega) only [go_sem, nr_1, ia, i1a, i1s]
        refine hK20 _ ?_
        clear hK21 K21 hK20 K20
        refine n_block ?_
        refine n_then ?_
        refine ⟨_, ?hdec, ⟨u - 1, ?hf0, rfl, ?heq⟩, ?hok⟩
        case heq => first | rfl | (simp only [St.cut, keep, if_true, if_false, Bool.false_eq_true, List.take_succ_cons, List.take_zero, List.take_nil]; try simp)
        case hf0 => exact szi_dn hu hF hb1
        case hdec => omega
        case hok => refine ⟨rfl, ?_, ?_⟩ <;> first | rfl | (simp [keep, PV.lt, PE.lt, PC.lt, Box.lt, ↓lC_lt]; done) | simp [keep, PV.lt, PE.lt, PC.lt, Box.lt, ↓lC_lt, ↓intC_lt, ↓ratC_lt, ↓u32s_lt]
      · replace hb1 := of_decide_eq_false hb1
        rw [two_ltf hr] at hb1
        refine pwp_exit ?_
        refine e_then ?_
        refine e_then ?_
        refine e_here ?_
        refine n_then ?_
        refine pwp_seq ?_
        refine pwp_block ?_
        refine pwp_loopF (false :: true :: true :: false :: false :: true :: true :: false :: false :: false :: false :: false :: false :: false :: false :: false :: false :: false :: false :: false :: false :: false :: false :: false :: false :: false :: false :: false :: false :: false :: false :: false :: false :: false :: false :: false :: false :: false :: false :: false :: false :: false :: false :: false :: false :: false :: false :: false :: false :: false :: false :: []) 5 (fun M s => ∃ w : Int, (SzI w 996) ∧ (w ≤ flR a b c) ∧ (flR a b c - w).toNat = M ∧ s = { slots := .j :: .e (.c (.ptr 0 0)) :: .e (.c (.ptr 1 0)) :: .j :: .j :: .e (.c (.ptr 3 0)) :: .e (.c (.ptr 4 0)) :: .j :: .j :: .j :: .j :: .j :: .j :: .j :: .j :: .j :: .j :: .j :: .j :: .j :: .j :: .j :: .j :: .j :: .j :: .j :: .j :: .j :: .j :: .j :: .j :: .j :: .j :: .j :: .j :: .j :: .j :: .j :: .j :: .j :: .j :: .j :: .j :: .j :: .j :: .j :: .j :: .j :: .j :: .j :: .j :: [], st := [.live (ratC a ++ (ratC b ++ ratC c)), .live [.bool false, .nils, .bool false, .nils], .live (intC q), .live (ratC 1), .live (ratC (w : Rat))] }) (n := (flR a b c - u).toNat) rfl ?_ ?_ ?_
        · refine ⟨u, ?_, ?_, rfl, ?_⟩
          · assumption
          · omega
          · first | rfl | (simp only [St.cut, keep, if_true, if_false, Bool.false_eq_true, List.take_succ_cons, List.take_zero, List.take_nil]; try simp)
        · refine ⟨rfl, ?_, ?_⟩ <;> first | rfl | (simp [keep, PV.lt, PE.lt, PC.lt, Box.lt, ↓lC_lt]; done) | simp [keep, PV.lt, PE.lt, PC.lt, Box.lt, ↓lC_lt, ↓intC_lt, ↓ratC_lt, ↓u32s_lt]
        · rintro _ _ ⟨w, hw, hwf, rfl, rfl⟩
          refine pwp_seq ?_
          refine pwx_sd Tryz.mixed 0 [] (by rfl) [] (by kernel_rfl) (by simp) (fun K22 hK22 => ?_)
          refine rgnX_take 4 (fun K23 hK23 => ?_)
          simp (disch := omega) only [go_sem, nr_1, ia, i1a, i1s]
          refine ⟨_, c_swarfref02_Add _ _ (by omega), ?_⟩
          refine hK23 _ ?_
          refine rgnX_take 1 (fun K24 hK24 => ?_)
          simp (disch := omega) only [go_sem, nr_1, ia, i1a, i1s]
          refine ⟨_, c_swarfref05_CmpRat _ _ _ _ (by omega), ?_⟩
          refine hK24 _ ?_
          simp (disch := omega) only [go_sem, nr_1, ia, i1a, i1s]
          refine hK22 _ ?_
          clear hK24 K24 hK23 K23 hK22 K22
          refine pwp_cond (b := _) (by rfl) (fun hb2 => ?_) (fun hb2 => ?_)
          · replace hb2 := of_decide_eq_true hb2
            rw [ge_iff_le, two_gef hr] at hb2
            refine pwp_skip ?_
            refine n_then ?_
            refine pwp_block ?_
            refine pwx_region 0 [] (by rfl) (fun K25 hK25 => ?_)
            refine rgnX_take 3 (fun K26 hK26 => ?_)
            simp (disch := omega) only [go_sem, nr_1, ia, i1a, i1s]
            refine ⟨_, c_swarfref02_Add _ _ (by omega), ?_⟩
            refine hK26 _ ?_
            simp (disch := omega) only [go_sem, nr_1, ia, i1a, i1s]
            refine hK25 _ ?_
            clear hK26 K26 hK25 K25
            refine n_block ?_
            refine n_then ?_
            refine ⟨_, ?hdec, ⟨w + 1, ?hf0, ?hf1, rfl, ?heq⟩, ?hok⟩
            case heq => first | rfl | (simp only [St.cut, keep, if_true, if_false, Bool.false_eq_true, List.take_succ_cons, List.take_zero, List.take_nil]; try simp)
            case hf0 => exact szi_up hw hF hb2
            case hf1 => omega
            case hdec => omega
            case hok => refine ⟨rfl, ?_, ?_⟩ <;> first | rfl | (simp [keep, PV.lt, PE.lt, PC.lt, Box.lt, ↓lC_lt]; done) | simp [keep, PV.lt, PE.lt, PC.lt, Box.lt, ↓lC_lt, ↓intC_lt, ↓ratC_lt, ↓u32s_lt]
          · replace hb2 := of_decide_eq_false hb2
            rw [ge_iff_le, two_gef hr] at hb2
            refine pwp_exit ?_
            refine e_then ?_
            refine e_then ?_
            refine e_here ?_
            refine n_then ?_
            refine pwx_sr 0 [] (by rfl) (fun K27 hK27 => ?_)
            simp (disch := omega) only [go_sem, nr_1, ia, i1a, i1s]
            refine hK27 _ ?_
            clear hK27 K27
            refine pwp_ret ?_
            refine ⟨Or.inr rfl, ?_⟩
            simp (disch := omega) only [go_sem, nr_1, ia, i1a, i1s]
            have e : w = flR a b c := (by omega); rw [e]

end Go.Proofs.YtdojhoegildiaaaGreat

set_option linter.unusedSimpArgs false
set_option linter.unusedVariables false
set_option maxRecDepth 20000
namespace Go.Proofs.YtdojhoegildiaaaGreat
open Go Go.PL Go.RL
set_option maxHeartbeats 4000000 in
theorem c_swarfref05_invert (a b c : Rat) {k l m : Nat} [SzR a k] [SzR b l] [SzR c m] (hk : k + l + m ≤ 5000) (z : b = 0 → c = 0) (hn : a * a - b * b * c ≠ 0) :
    Ret Tryz.prog 67 [.a (ratC (a) ++ (ratC (b) ++ ratC (c)))] (.e (.a (ratC (a * (1 / ((a) * (a) - (b) * (b) * c))) ++ (ratC (-b * (1 / ((a) * (a) - (b) * (b) * c))) ++ ratC (rC (-b * (1 / ((a) * (a) - (b) * (b) * c))) c))))) := by
  refine ret_of_body (md := {}) Tryz.func67 (by kernel_rfl) rfl ?_
  simp only [Tryz.f67, List.map_cons, List.map_nil, List.length_cons, List.length_nil, Nat.zero_add, Nat.reduceAdd, Nat.reduceSub, List.reduceReplicate, List.cons_append, List.nil_append]
  refine pwx_sr 2 [] (by rfl) (fun K1 hK1 => ?_)
  simp (disch := omega) only [go_sem]
  refine hK1 _ ?_
  clear hK1 K1
  refine pwx_sd Tryz.mixed 1 [] (by rfl) [] (by kernel_rfl) (by simp) (fun K2 hK2 => ?_)
  refine rgnX_take 5 (fun K3 hK3 => ?_)
  simp (disch := omega) only [go_sem]
  refine ⟨_, c_swarfref02_Mul _ _ (by omega), ?_⟩
  refine hK3 _ ?_
  refine rgnX_take 5 (fun K4 hK4 => ?_)
  simp (disch := omega) only [go_sem]
  refine ⟨_, c_swarfref02_Mul _ _ (by omega), ?_⟩
  refine hK4 _ ?_
  refine rgnX_take 3 (fun K5 hK5 => ?_)
  simp (disch := omega) only [go_sem]
  refine ⟨_, c_swarfref02_Mul _ _ (by omega), ?_⟩
  refine hK5 _ ?_
  refine rgnX_take 1 (fun K6 hK6 => ?_)
  simp (disch := omega) only [go_sem]
  refine ⟨_, c_swarfref02_Sub _ _ (by omega), ?_⟩
  refine hK6 _ ?_
  simp (disch := omega) only [go_sem]
  refine hK2 _ ?_
  clear hK6 K6 hK5 K5 hK4 K4 hK3 K3 hK2 K2
  refine pwx_sr 1 [] (by rfl) (fun K7 hK7 => ?_)
  refine rgnX_take 4 (fun K8 hK8 => ?_)
  simp (disch := omega) only [go_sem]
  refine ⟨_, c_swarfref02_Div _ _ (by omega) hn, ?_⟩
  refine hK8 _ ?_
  simp (disch := omega) only [go_sem]
  refine hK7 _ ?_
  clear hK8 K8 hK7 K7
  refine pwx_sd Tryz.mixed 1 [] (by rfl) [] (by kernel_rfl) (by simp) (fun K9 hK9 => ?_)
  refine rgnX_take 3 (fun K10 hK10 => ?_)
  simp (disch := omega) only [go_sem]
  refine ⟨_, c_swarfref02_Neg _ (by omega), ?_⟩
  refine hK10 _ ?_
  refine rgnX_take 2 (fun K11 hK11 => ?_)
  simp (disch := omega) only [go_sem]
  refine ⟨_, c_swarfref02_Div _ _ (by omega) hn, ?_⟩
  refine hK11 _ ?_
  simp (disch := omega) only [go_sem]
  refine hK9 _ ?_
  clear hK11 K11 hK10 K10 hK9 K9
  refine pwx_sr 0 [] (by rfl) (fun K12 hK12 => ?_)
  simp (disch := omega) only [go_sem]
  refine hK12 _ ?_
  clear hK12 K12
  refine pwp_ret ?_
  refine ⟨Or.inr rfl, ?_⟩
  simp (disch := omega) only [go_sem]
  all_goals rw [div_mul1 a, div_mul1 (-b), invC z (inv_ne hn)]
set_option maxHeartbeats 4000000 in
theorem c_rBetween_z (a b c a' b' c' : Rat) [SzR a 330] [SzR b 330] [SzR c 330] [SzR a' 330] [SzR b' 330] [SzR c' 330] (hc : Rdc b c) (hc' : Rdc b' c') (h1 : two (a - 0) b c < 0) (h2 : 0 < two (a' - 0) b' c') :
    Ret Tryz.prog 28 [.a (ratC (a) ++ (ratC (b) ++ ratC (c))), .a (ratC (a') ++ (ratC (b') ++ ratC (c')))] (.e (.a (ratC 0))) := by
  refine ret_of_body (md := {}) Tryz.func28 (by kernel_rfl) rfl ?_
  simp only [Tryz.f28, List.map_cons, List.map_nil, List.length_cons, List.length_nil, Nat.zero_add, Nat.reduceAdd, Nat.reduceSub, List.reduceReplicate, List.cons_append, List.nil_append]
  refine pwx_sr 3 [] (by rfl) (fun K1 hK1 => ?_)
  simp (disch := omega) only [go_sem, ex_i0, ex_i1]
  refine hK1 _ ?_
  clear hK1 K1
  refine pwx_sr 2 [] (by rfl) (fun K2 hK2 => ?_)
  refine rgnX_take 1 (fun K3 hK3 => ?_)
  simp (disch := omega) only [go_sem, ex_i0, ex_i1]
  refine ⟨_, c_swarfref02_FromInt64 _ (by omega) (by omega), ?_⟩
  refine hK3 _ ?_
  refine rgnX_take 1 (fun K4 hK4 => ?_)
  simp (disch := omega) only [go_sem, ex_i0, ex_i1]
  refine ⟨_, c_swarfref02_FromInt64 _ (by omega) (by omega), ?_⟩
  refine hK4 _ ?_
  simp (disch := omega) only [go_sem, ex_i0, ex_i1]
  refine hK2 _ ?_
  clear hK4 K4 hK3 K3 hK2 K2
  refine pwp_seq ?_
  refine pwx_sr 0 [some 17, some 18, some 19, some 20, some 21, some 22, some 23, some 24, some 25, some 26] (by rfl) (fun K5 hK5 => ?_)
  refine rgnX_take 3 (fun K6 hK6 => ?_)
  simp (disch := omega) only [go_sem, ex_i0, ex_i1, h1, h2, decide_true]
  refine ⟨_, c_swarfref05_CmpRat _ _ _ _ (by omega), ?_⟩
  refine hK6 _ ?_
  refine rgnX_take 5 (fun K7 hK7 => ?_)
  simp (disch := omega) only [go_sem, ex_i0, ex_i1, h1, h2, decide_true]
  first | refine ⟨_, c_swarfref05_CmpRat _ _ _ _ (by omega), ?_⟩ | skip
  refine hK7 _ ?_
  simp (disch := omega) only [go_sem, ex_i0, ex_i1, h1, h2, decide_true]
  refine hK5 _ ?_
  clear hK7 K7 hK6 K6 hK5 K5
  refine pwp_cond (b := true) (by rfl) (fun _ => ?_) (fun h => nomatch h)
  refine pwx_sr 0 [] (by rfl) (fun K8 hK8 => ?_)
  simp (disch := omega) only [go_sem, ex_i0, ex_i1]
  refine hK8 _ ?_
  clear hK8 K8
  refine pwp_ret ?_
  refine r_then ?_
  refine ⟨Or.inr rfl, ?_⟩
  simp (disch := omega) only [go_sem, ex_i0, ex_i1]
  all_goals rfl
set_option maxHeartbeats 4000000 in
theorem c_rBetween_1 (a b c a' b' c' : Rat) [SzR a 330] [SzR b 330] [SzR c 330] [SzR a' 330] [SzR b' 330] [SzR c' 330] (hc : Rdc b c) (hc' : Rdc b' c') (n : Int) (hn : flR a b c = n) [SzI n 700] (h0 : ¬ two (a - 0) b c < 0) (h1 : 0 < two (a' - ((n : Rat) + 1)) b' c') :
    Ret Tryz.prog 28 [.a (ratC (a) ++ (ratC (b) ++ ratC (c))), .a (ratC (a') ++ (ratC (b') ++ ratC (c')))] (.e (.a (ratC ((n : Rat) + 1)))) := by
  refine ret_of_body (md := {}) Tryz.func28 (by kernel_rfl) rfl ?_
  simp only [Tryz.f28, List.map_cons, List.map_nil, List.length_cons, List.length_nil, Nat.zero_add, Nat.reduceAdd, Nat.reduceSub, List.reduceReplicate, List.cons_append, List.nil_append]
  have k0 : 0 ≤ two (a - 0) b c := by omega
  refine pwx_sr 3 [] (by rfl) (fun K1 hK1 => ?_)
  simp (disch := omega) only [go_sem, ex_i0, ex_i1, hn]
  refine hK1 _ ?_
  clear hK1 K1
  refine pwx_sr 2 [] (by rfl) (fun K2 hK2 => ?_)
  refine rgnX_take 1 (fun K3 hK3 => ?_)
  simp (disch := omega) only [go_sem, ex_i0, ex_i1, hn]
  refine ⟨_, c_swarfref02_FromInt64 _ (by omega) (by omega), ?_⟩
  refine hK3 _ ?_
  refine rgnX_take 1 (fun K4 hK4 => ?_)
  simp (disch := omega) only [go_sem, ex_i0, ex_i1, hn]
  refine ⟨_, c_swarfref02_FromInt64 _ (by omega) (by omega), ?_⟩
  refine hK4 _ ?_
  simp (disch := omega) only [go_sem, ex_i0, ex_i1, hn]
  refine hK2 _ ?_
  clear hK4 K4 hK3 K3 hK2 K2
  refine pwp_seq ?_
  refine pwx_sr 0 [some 17, some 18, some 19, some 20, some 21, some 22, some 23, some 24, some 25, some 26] (by rfl) (fun K5 hK5 => ?_)
  refine rgnX_take 3 (fun K6 hK6 => ?_)
  simp (disch := omega) only [go_sem, ex_i0, ex_i1, hn, h0, k0, decide_false, decide_true]
  refine ⟨_, c_swarfref05_CmpRat _ _ _ _ (by omega), ?_⟩
  refine hK6 _ ?_
  refine rgnX_take 5 (fun K7 hK7 => ?_)
  simp (disch := omega) only [go_sem, ex_i0, ex_i1, hn, h0, k0, decide_false, decide_true]
  first | refine ⟨_, c_swarfref05_CmpRat _ _ _ _ (by omega), ?_⟩ | skip
  refine hK7 _ ?_
  simp (disch := omega) only [go_sem, ex_i0, ex_i1, hn, h0, k0, decide_false, decide_true]
  refine hK5 _ ?_
  clear hK7 K7 hK6 K6 hK5 K5
  refine pwp_cond (b := false) (by rfl) (fun h => nomatch h) (fun _ => ?_)
  refine pwp_skip ?_
  refine n_then ?_
  refine pwx_sr 1 [] (by rfl) (fun K8 hK8 => ?_)
  refine rgnX_take 2 (fun K9 hK9 => ?_)
  simp (disch := omega) only [go_sem, ex_i0, ex_i1, hn]
  refine ⟨_, c_swarfref05_Floor _ _ _ (by assumption), ?_⟩
  refine hK9 _ ?_
  simp (disch := omega) only [go_sem, ex_i0, ex_i1, hn]
  refine hK8 _ ?_
  clear hK9 K9 hK8 K8
  refine pwx_sr 1 [] (by rfl) (fun K10 hK10 => ?_)
  refine rgnX_take 3 (fun K11 hK11 => ?_)
  simp (disch := omega) only [go_sem, ex_i0, ex_i1, hn]
  refine ⟨_, c_swarfref02_Add _ _ (by omega), ?_⟩
  refine hK11 _ ?_
  simp (disch := omega) only [go_sem, ex_i0, ex_i1, hn]
  refine hK10 _ ?_
  clear hK11 K11 hK10 K10
  refine pwp_seq ?_
  refine pwx_sr 0 [] (by rfl) (fun K12 hK12 => ?_)
  refine rgnX_take 3 (fun K13 hK13 => ?_)
  simp (disch := omega) only [go_sem, ex_i0, ex_i1, hn, h1, decide_true]
  refine ⟨_, c_swarfref05_CmpRat _ _ _ _ (by omega), ?_⟩
  refine hK13 _ ?_
  simp (disch := omega) only [go_sem, ex_i0, ex_i1, hn, h1, decide_true]
  refine hK12 _ ?_
  clear hK13 K13 hK12 K12
  refine pwp_cond (b := true) (by rfl) (fun _ => ?_) (fun h => nomatch h)
  refine pwp_seq ?_
  refine pwx_sr 0 [] (by rfl) (fun K14 hK14 => ?_)
  refine rgnX_take 3 (fun K15 hK15 => ?_)
  simp (disch := omega) only [go_sem, ex_i0, ex_i1, hn, k0, ge_iff_le, decide_true]
  refine ⟨_, c_swarfref05_CmpRat _ _ _ _ (by omega), ?_⟩
  refine hK15 _ ?_
  simp (disch := omega) only [go_sem, ex_i0, ex_i1, hn, k0, ge_iff_le, decide_true]
  refine hK14 _ ?_
  clear hK15 K15 hK14 K14
  refine pwp_cond (b := true) (by rfl) (fun _ => ?_) (fun h => nomatch h)
  refine pwx_sr 0 [] (by rfl) (fun K16 hK16 => ?_)
  simp (disch := omega) only [go_sem, ex_i0, ex_i1, hn]
  refine hK16 _ ?_
  clear hK16 K16
  refine pwp_ret ?_
  refine r_then ?_
  refine r_then ?_
  refine ⟨Or.inr rfl, ?_⟩
  simp (disch := omega) only [go_sem, ex_i0, ex_i1, hn]
  all_goals rfl
set_option maxHeartbeats 4000000 in
theorem c_rBetween_2a (a b c a' b' c' : Rat) [SzR a 330] [SzR b 330] [SzR c 330] [SzR a' 330] [SzR b' 330] [SzR c' 330] (hc : Rdc b c) (hc' : Rdc b' c') (n : Int) (hn : flR a b c = n) [SzI n 700] (h0 : ¬ 0 < two (a' - 0) b' c') (k0 : two (a - 0) b c < 0) (h1 : 0 < two (a' - ((n : Rat) + 1)) b' c') (m : Int) (hm : flR a' b' c' = m) [SzI m 700] (h2 : two (a' - (m : Rat)) b' c' = 0) :
    Ret Tryz.prog 28 [.a (ratC (a) ++ (ratC (b) ++ ratC (c))), .a (ratC (a') ++ (ratC (b') ++ ratC (c')))] (.e (.a (ratC ((m : Rat) - 1)))) := by
  refine ret_of_body (md := {}) Tryz.func28 (by kernel_rfl) rfl ?_
  simp only [Tryz.f28, List.map_cons, List.map_nil, List.length_cons, List.length_nil, Nat.zero_add, Nat.reduceAdd, Nat.reduceSub, List.reduceReplicate, List.cons_append, List.nil_append]
  have k1 : ¬ 0 ≤ two (a - 0) b c := by omega
  refine pwx_sr 3 [] (by rfl) (fun K1 hK1 => ?_)
  simp (disch := omega) only [go_sem, ex_i0, ex_i1, hn, hm]
  refine hK1 _ ?_
  clear hK1 K1
  refine pwx_sr 2 [] (by rfl) (fun K2 hK2 => ?_)
  refine rgnX_take 1 (fun K3 hK3 => ?_)
  simp (disch := omega) only [go_sem, ex_i0, ex_i1, hn, hm]
  refine ⟨_, c_swarfref02_FromInt64 _ (by omega) (by omega), ?_⟩
  refine hK3 _ ?_
  refine rgnX_take 1 (fun K4 hK4 => ?_)
  simp (disch := omega) only [go_sem, ex_i0, ex_i1, hn, hm]
  refine ⟨_, c_swarfref02_FromInt64 _ (by omega) (by omega), ?_⟩
  refine hK4 _ ?_
  simp (disch := omega) only [go_sem, ex_i0, ex_i1, hn, hm]
  refine hK2 _ ?_
  clear hK4 K4 hK3 K3 hK2 K2
  refine pwp_seq ?_
  refine pwx_sr 0 [some 17, some 18, some 19, some 20, some 21, some 22, some 23, some 24, some 25, some 26] (by rfl) (fun K5 hK5 => ?_)
  refine rgnX_take 3 (fun K6 hK6 => ?_)
  simp (disch := omega) only [go_sem, ex_i0, ex_i1, hn, hm, h0, k0, decide_false, decide_true]
  refine ⟨_, c_swarfref05_CmpRat _ _ _ _ (by omega), ?_⟩
  refine hK6 _ ?_
  refine rgnX_take 5 (fun K7 hK7 => ?_)
  simp (disch := omega) only [go_sem, ex_i0, ex_i1, hn, hm, h0, k0, decide_false, decide_true]
  first | refine ⟨_, c_swarfref05_CmpRat _ _ _ _ (by omega), ?_⟩ | skip
  refine hK7 _ ?_
  simp (disch := omega) only [go_sem, ex_i0, ex_i1, hn, hm, h0, k0, decide_false, decide_true]
  refine hK5 _ ?_
  clear hK7 K7 hK6 K6 hK5 K5
  refine pwp_cond (b := false) (by rfl) (fun h => nomatch h) (fun _ => ?_)
  refine pwp_skip ?_
  refine n_then ?_
  refine pwx_sr 1 [] (by rfl) (fun K8 hK8 => ?_)
  refine rgnX_take 2 (fun K9 hK9 => ?_)
  simp (disch := omega) only [go_sem, ex_i0, ex_i1, hn, hm]
  refine ⟨_, c_swarfref05_Floor _ _ _ (by assumption), ?_⟩
  refine hK9 _ ?_
  simp (disch := omega) only [go_sem, ex_i0, ex_i1, hn, hm]
  refine hK8 _ ?_
  clear hK9 K9 hK8 K8
  refine pwx_sr 1 [] (by rfl) (fun K10 hK10 => ?_)
  refine rgnX_take 3 (fun K11 hK11 => ?_)
  simp (disch := omega) only [go_sem, ex_i0, ex_i1, hn, hm]
  refine ⟨_, c_swarfref02_Add _ _ (by omega), ?_⟩
  refine hK11 _ ?_
  simp (disch := omega) only [go_sem, ex_i0, ex_i1, hn, hm]
  refine hK10 _ ?_
  clear hK11 K11 hK10 K10
  refine pwp_seq ?_
  refine pwx_sr 0 [] (by rfl) (fun K12 hK12 => ?_)
  refine rgnX_take 3 (fun K13 hK13 => ?_)
  simp (disch := omega) only [go_sem, ex_i0, ex_i1, hn, hm, h1, decide_true]
  refine ⟨_, c_swarfref05_CmpRat _ _ _ _ (by omega), ?_⟩
  refine hK13 _ ?_
  simp (disch := omega) only [go_sem, ex_i0, ex_i1, hn, hm, h1, decide_true]
  refine hK12 _ ?_
  clear hK13 K13 hK12 K12
  refine pwp_cond (b := true) (by rfl) (fun _ => ?_) (fun h => nomatch h)
  refine pwp_seq ?_
  refine pwx_sr 0 [] (by rfl) (fun K14 hK14 => ?_)
  refine rgnX_take 3 (fun K15 hK15 => ?_)
  simp (disch := omega) only [go_sem, ex_i0, ex_i1, hn, hm, k1, ge_iff_le, decide_false]
  refine ⟨_, c_swarfref05_CmpRat _ _ _ _ (by omega), ?_⟩
  refine hK15 _ ?_
  simp (disch := omega) only [go_sem, ex_i0, ex_i1, hn, hm, k1, ge_iff_le, decide_false]
  refine hK14 _ ?_
  clear hK15 K15 hK14 K14
  refine pwp_cond (b := false) (by rfl) (fun h => nomatch h) (fun _ => ?_)
  refine pwp_skip ?_
  refine n_then ?_
  refine pwx_sr 1 [] (by rfl) (fun K16 hK16 => ?_)
  refine rgnX_take 2 (fun K17 hK17 => ?_)
  simp (disch := omega) only [go_sem, ex_i0, ex_i1, hn, hm]
  refine ⟨_, c_swarfref05_Floor _ _ _ (by assumption), ?_⟩
  refine hK17 _ ?_
  simp (disch := omega) only [go_sem, ex_i0, ex_i1, hn, hm]
  refine hK16 _ ?_
  clear hK17 K17 hK16 K16
  refine pwp_seq ?_
  refine pwx_sr 0 [] (by rfl) (fun K18 hK18 => ?_)
  refine rgnX_take 3 (fun K19 hK19 => ?_)
  simp (disch := omega) only [go_sem, ex_i0, ex_i1, hn, hm, h2, decide_true, decide_false]
  refine ⟨_, c_swarfref05_CmpRat _ _ _ _ (by omega), ?_⟩
  refine hK19 _ ?_
  simp (disch := omega) only [go_sem, ex_i0, ex_i1, hn, hm, h2, decide_true, decide_false]
  refine hK18 _ ?_
  clear hK19 K19 hK18 K18
  refine pwp_cond (b := true) (by rfl) (fun _ => ?_) (fun h => nomatch h)
  refine pwx_region 0 [] (by rfl) (fun K20 hK20 => ?_)
  refine rgnX_take 3 (fun K21 hK21 => ?_)
  simp (disch := omega) only [go_sem, ex_i0, ex_i1, hn, hm]
  refine ⟨_, c_swarfref02_Sub _ _ (by omega), ?_⟩
  refine hK21 _ ?_
  simp (disch := omega) only [go_sem, ex_i0, ex_i1, hn, hm]
  refine hK20 _ ?_
  clear hK21 K21 hK20 K20
  refine n_then ?_
  refine pwx_sr 0 [] (by rfl) (fun K22 hK22 => ?_)
  simp (disch := omega) only [go_sem, ex_i0, ex_i1, hn, hm]
  refine hK22 _ ?_
  clear hK22 K22
  refine pwp_ret ?_
  refine r_then ?_
  refine ⟨Or.inr rfl, ?_⟩
  simp (disch := omega) only [go_sem, ex_i0, ex_i1, hn, hm]
  all_goals rfl
set_option maxHeartbeats 4000000 in
theorem c_rBetween_2b (a b c a' b' c' : Rat) [SzR a 330] [SzR b 330] [SzR c 330] [SzR a' 330] [SzR b' 330] [SzR c' 330] (hc : Rdc b c) (hc' : Rdc b' c') (n : Int) (hn : flR a b c = n) [SzI n 700] (h0 : ¬ 0 < two (a' - 0) b' c') (k0 : two (a - 0) b c < 0) (h1 : 0 < two (a' - ((n : Rat) + 1)) b' c') (m : Int) (hm : flR a' b' c' = m) [SzI m 700] (h2 : ¬ two (a' - (m : Rat)) b' c' = 0) :
    Ret Tryz.prog 28 [.a (ratC (a) ++ (ratC (b) ++ ratC (c))), .a (ratC (a') ++ (ratC (b') ++ ratC (c')))] (.e (.a (ratC (m : Rat)))) := by
  refine ret_of_body (md := {}) Tryz.func28 (by kernel_rfl) rfl ?_
  simp only [Tryz.f28, List.map_cons, List.map_nil, List.length_cons, List.length_nil, Nat.zero_add, Nat.reduceAdd, Nat.reduceSub, List.reduceReplicate, List.cons_append, List.nil_append]
  have k1 : ¬ 0 ≤ two (a - 0) b c := by omega
  refine pwx_sr 3 [] (by rfl) (fun K1 hK1 => ?_)
  simp (disch := omega) only [go_sem, ex_i0, ex_i1, hn, hm]
  refine hK1 _ ?_
  clear hK1 K1
  refine pwx_sr 2 [] (by rfl) (fun K2 hK2 => ?_)
  refine rgnX_take 1 (fun K3 hK3 => ?_)
  simp (disch := omega) only [go_sem, ex_i0, ex_i1, hn, hm]
  refine ⟨_, c_swarfref02_FromInt64 _ (by omega) (by omega), ?_⟩
  refine hK3 _ ?_
  refine rgnX_take 1 (fun K4 hK4 => ?_)
  simp (disch := omega) only [go_sem, ex_i0, ex_i1, hn, hm]
  refine ⟨_, c_swarfref02_FromInt64 _ (by omega) (by omega), ?_⟩
  refine hK4 _ ?_
  simp (disch := omega) only [go_sem, ex_i0, ex_i1, hn, hm]
  refine hK2 _ ?_
  clear hK4 K4 hK3 K3 hK2 K2
  refine pwp_seq ?_
  refine pwx_sr 0 [some 17, some 18, some 19, some 20, some 21, some 22, some 23, some 24, some 25, some 26] (by rfl) (fun K5 hK5 => ?_)
  refine rgnX_take 3 (fun K6 hK6 => ?_)
  simp (disch := omega) only [go_sem, ex_i0, ex_i1, hn, hm, h0, k0, decide_false, decide_true]
  refine ⟨_, c_swarfref05_CmpRat _ _ _ _ (by omega), ?_⟩
  refine hK6 _ ?_
  refine rgnX_take 5 (fun K7 hK7 => ?_)
  simp (disch := omega) only [go_sem, ex_i0, ex_i1, hn, hm, h0, k0, decide_false, decide_true]
  first | refine ⟨_, c_swarfref05_CmpRat _ _ _ _ (by omega), ?_⟩ | skip
  refine hK7 _ ?_
  simp (disch := omega) only [go_sem, ex_i0, ex_i1, hn, hm, h0, k0, decide_false, decide_true]
  refine hK5 _ ?_
  clear hK7 K7 hK6 K6 hK5 K5
  refine pwp_cond (b := false) (by rfl) (fun h => nomatch h) (fun _ => ?_)
  refine pwp_skip ?_
  refine n_then ?_
  refine pwx_sr 1 [] (by rfl) (fun K8 hK8 => ?_)
  refine rgnX_take 2 (fun K9 hK9 => ?_)
  simp (disch := omega) only [go_sem, ex_i0, ex_i1, hn, hm]
  refine ⟨_, c_swarfref05_Floor _ _ _ (by assumption), ?_⟩
  refine hK9 _ ?_
  simp (disch := omega) only [go_sem, ex_i0, ex_i1, hn, hm]
  refine hK8 _ ?_
  clear hK9 K9 hK8 K8
  refine pwx_sr 1 [] (by rfl) (fun K10 hK10 => ?_)
  refine rgnX_take 3 (fun K11 hK11 => ?_)
  simp (disch := omega) only [go_sem, ex_i0, ex_i1, hn, hm]
  refine ⟨_, c_swarfref02_Add _ _ (by omega), ?_⟩
  refine hK11 _ ?_
  simp (disch := omega) only [go_sem, ex_i0, ex_i1, hn, hm]
  refine hK10 _ ?_
  clear hK11 K11 hK10 K10
  refine pwp_seq ?_
  refine pwx_sr 0 [] (by rfl) (fun K12 hK12 => ?_)
  refine rgnX_take 3 (fun K13 hK13 => ?_)
  simp (disch := omega) only [go_sem, ex_i0, ex_i1, hn, hm, h1, decide_true]
  refine ⟨_, c_swarfref05_CmpRat _ _ _ _ (by omega), ?_⟩
  refine hK13 _ ?_
  simp (disch := omega) only [go_sem, ex_i0, ex_i1, hn, hm, h1, decide_true]
  refine hK12 _ ?_
  clear hK13 K13 hK12 K12
  refine pwp_cond (b := true) (by rfl) (fun _ => ?_) (fun h => nomatch h)
  refine pwp_seq ?_
  refine pwx_sr 0 [] (by rfl) (fun K14 hK14 => ?_)
  refine rgnX_take 3 (fun K15 hK15 => ?_)
  simp (disch := omega) only [go_sem, ex_i0, ex_i1, hn, hm, k1, ge_iff_le, decide_false]
  refine ⟨_, c_swarfref05_CmpRat _ _ _ _ (by omega), ?_⟩
  refine hK15 _ ?_
  simp (disch := omega) only [go_sem, ex_i0, ex_i1, hn, hm, k1, ge_iff_le, decide_false]
  refine hK14 _ ?_
  clear hK15 K15 hK14 K14
  refine pwp_cond (b := false) (by rfl) (fun h => nomatch h) (fun _ => ?_)
  refine pwp_skip ?_
  refine n_then ?_
  refine pwx_sr 1 [] (by rfl) (fun K16 hK16 => ?_)
  refine rgnX_take 2 (fun K17 hK17 => ?_)
  simp (disch := omega) only [go_sem, ex_i0, ex_i1, hn, hm]
  refine ⟨_, c_swarfref05_Floor _ _ _ (by assumption), ?_⟩
  refine hK17 _ ?_
  simp (disch := omega) only [go_sem, ex_i0, ex_i1, hn, hm]
  refine hK16 _ ?_
  clear hK17 K17 hK16 K16
  refine pwp_seq ?_
  refine pwx_sr 0 [] (by rfl) (fun K18 hK18 => ?_)
  refine rgnX_take 3 (fun K19 hK19 => ?_)
  simp (disch := omega) only [go_sem, ex_i0, ex_i1, hn, hm, h2, decide_true, decide_false]
  refine ⟨_, c_swarfref05_CmpRat _ _ _ _ (by omega), ?_⟩
  refine hK19 _ ?_
  simp (disch := omega) only [go_sem, ex_i0, ex_i1, hn, hm, h2, decide_true, decide_false]
  refine hK18 _ ?_
  clear hK19 K19 hK18 K18
  refine pwp_cond (b := false) (by rfl) (fun h => nomatch h) (fun _ => ?_)
  refine pwp_skip ?_
  refine n_then ?_
  refine pwx_sr 0 [] (by rfl) (fun K20 hK20 => ?_)
  simp (disch := omega) only [go_sem, ex_i0, ex_i1, hn, hm]
  refine hK20 _ ?_
  clear hK20 K20
  refine pwp_ret ?_
  refine r_then ?_
  refine ⟨Or.inr rfl, ?_⟩
  simp (disch := omega) only [go_sem, ex_i0, ex_i1, hn, hm]
  all_goals rfl
set_option maxHeartbeats 4000000 in
theorem c_rBetween_3p (a b c a' b' c' : Rat) [SzR a 330] [SzR b 330] [SzR c 330] [SzR a' 330] [SzR b' 330] [SzR c' 330] (hc : Rdc b c) (hc' : Rdc b' c') (n : Int) (hn : flR a b c = n) [SzI n 700] (h0 : ¬ two (a - 0) b c < 0) (z : b = 0 → c = 0) (z' : b' = 0 → c' = 0) (h1 : ¬ 0 < two (a' - ((n : Rat) + 1)) b' c') (h2 : two (a - (n : Rat)) b c = 0) (hN1 : ((a' - (n : Rat)) * (a' - (n : Rat)) - (b') * (b') * c') ≠ 0) (m : Int) (hm : flR ((a' - n) * (1 / ((a' - n) * (a' - n) - (b') * (b') * c'))) (-b' * (1 / ((a' - n) * (a' - n) - (b') * (b') * c'))) (rC (-b' * (1 / ((a' - n) * (a' - n) - (b') * (b') * c'))) c') = m) [SzR ((a' - n) * (1 / ((a' - n) * (a' - n) - (b') * (b') * c'))) 330] [SzR (-b' * (1 / ((a' - n) * (a' - n) - (b') * (b') * c'))) 330] [SzR (rC (-b' * (1 / ((a' - n) * (a' - n) - (b') * (b') * c'))) c') 330] (hr : Rdc (-b' * (1 / ((a' - n) * (a' - n) - (b') * (b') * c'))) (rC (-b' * (1 / ((a' - n) * (a' - n) - (b') * (b') * c'))) c')) [SzI m 1000] (hy : (m : Rat) + 1 ≠ 0) :
    Ret Tryz.prog 28 [.a (ratC (a) ++ (ratC (b) ++ ratC (c))), .a (ratC (a') ++ (ratC (b') ++ ratC (c')))] (.e (.a (ratC ((n : Rat) + 1 / ((m : Rat) + 1))))) := by
  refine ret_of_body (md := {}) Tryz.func28 (by kernel_rfl) rfl ?_
  simp only [Tryz.f28, List.map_cons, List.map_nil, List.length_cons, List.length_nil, Nat.zero_add, Nat.reduceAdd, Nat.reduceSub, List.reduceReplicate, List.cons_append, List.nil_append]
  refine pwx_sr 3 [] (by rfl) (fun K1 hK1 => ?_)
  simp (disch := omega) only [go_sem, ex_i0, ex_i1, hn, hm]
  refine hK1 _ ?_
  clear hK1 K1
  refine pwx_sr 2 [] (by rfl) (fun K2 hK2 => ?_)
  refine rgnX_take 1 (fun K3 hK3 => ?_)
  simp (disch := omega) only [go_sem, ex_i0, ex_i1, hn, hm]
  refine ⟨_, c_swarfref02_FromInt64 _ (by omega) (by omega), ?_⟩
  refine hK3 _ ?_
  refine rgnX_take 1 (fun K4 hK4 => ?_)
  simp (disch := omega) only [go_sem, ex_i0, ex_i1, hn, hm]
  refine ⟨_, c_swarfref02_FromInt64 _ (by omega) (by omega), ?_⟩
  refine hK4 _ ?_
  simp (disch := omega) only [go_sem, ex_i0, ex_i1, hn, hm]
  refine hK2 _ ?_
  clear hK4 K4 hK3 K3 hK2 K2
  refine pwp_seq ?_
  refine pwx_sr 0 [some 17, some 18, some 19, some 20, some 21, some 22, some 23, some 24, some 25, some 26] (by rfl) (fun K5 hK5 => ?_)
  refine rgnX_take 3 (fun K6 hK6 => ?_)
  simp (disch := omega) only [go_sem, ex_i0, ex_i1, hn, hm, h0, decide_false]
  refine ⟨_, c_swarfref05_CmpRat _ _ _ _ (by omega), ?_⟩
  refine hK6 _ ?_
  refine rgnX_take 5 (fun K7 hK7 => ?_)
  simp (disch := omega) only [go_sem, ex_i0, ex_i1, hn, hm, h0, decide_false]
  first | refine ⟨_, c_swarfref05_CmpRat _ _ _ _ (by omega), ?_⟩ | skip
  refine hK7 _ ?_
  simp (disch := omega) only [go_sem, ex_i0, ex_i1, hn, hm, h0, decide_false]
  refine hK5 _ ?_
  clear hK7 K7 hK6 K6 hK5 K5
  refine pwp_cond (b := false) (by rfl) (fun h => nomatch h) (fun _ => ?_)
  refine pwp_skip ?_
  refine n_then ?_
  refine pwx_sr 1 [] (by rfl) (fun K8 hK8 => ?_)
  refine rgnX_take 2 (fun K9 hK9 => ?_)
  simp (disch := omega) only [go_sem, ex_i0, ex_i1, hn, hm]
  refine ⟨_, c_swarfref05_Floor _ _ _ (by assumption), ?_⟩
  refine hK9 _ ?_
  simp (disch := omega) only [go_sem, ex_i0, ex_i1, hn, hm]
  refine hK8 _ ?_
  clear hK9 K9 hK8 K8
  refine pwx_sr 1 [] (by rfl) (fun K10 hK10 => ?_)
  refine rgnX_take 3 (fun K11 hK11 => ?_)
  simp (disch := omega) only [go_sem, ex_i0, ex_i1, hn, hm]
  refine ⟨_, c_swarfref02_Add _ _ (by omega), ?_⟩
  refine hK11 _ ?_
  simp (disch := omega) only [go_sem, ex_i0, ex_i1, hn, hm]
  refine hK10 _ ?_
  clear hK11 K11 hK10 K10
  refine pwp_seq ?_
  refine pwx_sr 0 [] (by rfl) (fun K12 hK12 => ?_)
  refine rgnX_take 3 (fun K13 hK13 => ?_)
  simp (disch := omega) only [go_sem, ex_i0, ex_i1, hn, hm, h1, decide_false]
  refine ⟨_, c_swarfref05_CmpRat _ _ _ _ (by omega), ?_⟩
  refine hK13 _ ?_
  simp (disch := omega) only [go_sem, ex_i0, ex_i1, hn, hm, h1, decide_false]
  refine hK12 _ ?_
  clear hK13 K13 hK12 K12
  refine pwp_cond (b := false) (by rfl) (fun h => nomatch h) (fun _ => ?_)
  refine pwp_skip ?_
  refine n_then ?_
  refine pwx_sd Tryz.mixed 2 [] (by rfl) [] (by kernel_rfl) (by simp) (fun K14 hK14 => ?_)
  refine rgnX_take 3 (fun K15 hK15 => ?_)
  simp (disch := omega) only [go_sem, ex_i0, ex_i1, hn, hm]
  refine ⟨_, c_swarfref05_move _ _ _ _ (by omega), ?_⟩
  refine hK15 _ ?_
  refine rgnX_take 3 (fun K16 hK16 => ?_)
  simp (disch := omega) only [go_sem, ex_i0, ex_i1, hn, hm]
  refine ⟨_, c_swarfref05_move _ _ _ _ (by omega), ?_⟩
  refine hK16 _ ?_
  simp (disch := omega) only [go_sem, ex_i0, ex_i1, hn, hm]
  refine hK14 _ ?_
  clear hK16 K16 hK15 K15 hK14 K14
  refine pwx_sr 1 [] (by rfl) (fun K17 hK17 => ?_)
  simp (disch := omega) only [go_sem, ex_i0, ex_i1, hn, hm]
  refine hK17 _ ?_
  clear hK17 K17
  refine pwp_seq ?_
  refine pwx_sr 0 [] (by rfl) (fun K18 hK18 => ?_)
  refine rgnX_take 3 (fun K19 hK19 => ?_)
  simp (disch := omega) only [go_sem, ex_i0, ex_i1, hn, hm, sub0, h2, decide_true]
  refine ⟨_, c_swarfref05_CmpRat _ _ _ _ (by omega), ?_⟩
  refine hK19 _ ?_
  simp (disch := omega) only [go_sem, ex_i0, ex_i1, hn, hm, sub0, h2, decide_true]
  refine hK18 _ ?_
  clear hK19 K19 hK18 K18
  refine pwp_cond (b := true) (by rfl) (fun _ => ?_) (fun h => nomatch h)
  refine pwx_draw Tryz.mixed 0 [] (by rfl) [] (by kernel_rfl) (by simp) (fun K20 hK20 => ?_)
  refine rgnX_take 2 (fun K21 hK21 => ?_)
  simp (disch := omega) only [go_sem, ex_i0, ex_i1, hn, hm]
  first | refine ⟨_, c_swarfref05_invert _ _ _ (by omega) z' hN1, ?_⟩ | refine ⟨_, c_swarfref05_invert _ _ _ (by omega) z hN2, ?_⟩
  refine hK21 _ ?_
  refine rgnX_take 1 (fun K22 hK22 => ?_)
  simp (disch := omega) only [go_sem, ex_i0, ex_i1, hn, hm]
  refine ⟨_, c_swarfref05_Floor _ _ _ (by assumption), ?_⟩
  refine hK22 _ ?_
  refine rgnX_take 2 (fun K23 hK23 => ?_)
  simp (disch := omega) only [go_sem, ex_i0, ex_i1, hn, hm]
  refine ⟨_, c_swarfref02_Add _ _ (by omega), ?_⟩
  refine hK23 _ ?_
  simp (disch := omega) only [go_sem, ex_i0, ex_i1, hn, hm]
  refine hK20 _ ?_
  clear hK23 K23 hK22 K22 hK21 K21 hK20 K20
  refine n_then ?_
  refine pwx_sr 1 [] (by rfl) (fun K24 hK24 => ?_)
  refine rgnX_take 3 (fun K25 hK25 => ?_)
  simp (disch := omega) only [go_sem, ex_i0, ex_i1, hn, hm]
  refine ⟨_, c_swarfref02_Div _ _ (by omega) hy, ?_⟩
  refine hK25 _ ?_
  simp (disch := omega) only [go_sem, ex_i0, ex_i1, hn, hm]
  refine hK24 _ ?_
  clear hK25 K25 hK24 K24
  refine pwx_sr 0 [] (by rfl) (fun K26 hK26 => ?_)
  refine rgnX_take 3 (fun K27 hK27 => ?_)
  simp (disch := omega) only [go_sem, ex_i0, ex_i1, hn, hm]
  refine ⟨_, c_swarfref02_Add _ _ (by omega), ?_⟩
  refine hK27 _ ?_
  simp (disch := omega) only [go_sem, ex_i0, ex_i1, hn, hm]
  refine hK26 _ ?_
  clear hK27 K27 hK26 K26
  refine pwp_ret ?_
  refine ⟨Or.inr rfl, ?_⟩
  simp (disch := omega) only [go_sem, ex_i0, ex_i1, hn, hm]
  all_goals rfl
set_option maxHeartbeats 4000000 in
theorem c_rBetween_4p (a b c a' b' c' : Rat) [SzR a 330] [SzR b 330] [SzR c 330] [SzR a' 330] [SzR b' 330] [SzR c' 330] (hc : Rdc b c) (hc' : Rdc b' c') (n : Int) (hn : flR a b c = n) [SzI n 700] (h0 : ¬ two (a - 0) b c < 0) (z : b = 0 → c = 0) (z' : b' = 0 → c' = 0) (h1 : ¬ 0 < two (a' - ((n : Rat) + 1)) b' c') (h2 : ¬ two (a - (n : Rat)) b c = 0) (hN1 : ((a' - (n : Rat)) * (a' - (n : Rat)) - (b') * (b') * c') ≠ 0) (hN2 : ((a - (n : Rat)) * (a - (n : Rat)) - (b) * (b) * c) ≠ 0) (y : Rat) [SzR y 1000] (hy : y ≠ 0) (hr : Ret Tryz.prog 28 [.a (ratC ((a' - n) * (1 / ((a' - n) * (a' - n) - (b') * (b') * c'))) ++ (ratC (-b' * (1 / ((a' - n) * (a' - n) - (b') * (b') * c'))) ++ ratC (rC (-b' * (1 / ((a' - n) * (a' - n) - (b') * (b') * c'))) c'))), .a (ratC ((a - n) * (1 / ((a - n) * (a - n) - (b) * (b) * c))) ++ (ratC (-b * (1 / ((a - n) * (a - n) - (b) * (b) * c))) ++ ratC (rC (-b * (1 / ((a - n) * (a - n) - (b) * (b) * c))) c)))] (.e (.a (ratC y)))) :
    Ret Tryz.prog 28 [.a (ratC (a) ++ (ratC (b) ++ ratC (c))), .a (ratC (a') ++ (ratC (b') ++ ratC (c')))] (.e (.a (ratC ((n : Rat) + 1 / y)))) := by
  refine ret_of_body (md := {}) Tryz.func28 (by kernel_rfl) rfl ?_
  simp only [Tryz.f28, List.map_cons, List.map_nil, List.length_cons, List.length_nil, Nat.zero_add, Nat.reduceAdd, Nat.reduceSub, List.reduceReplicate, List.cons_append, List.nil_append]
  refine pwx_sr 3 [] (by rfl) (fun K1 hK1 => ?_)
  simp (disch := omega) only [go_sem, ex_i0, ex_i1, hn]
  refine hK1 _ ?_
  clear hK1 K1
  refine pwx_sr 2 [] (by rfl) (fun K2 hK2 => ?_)
  refine rgnX_take 1 (fun K3 hK3 => ?_)
  simp (disch := omega) only [go_sem, ex_i0, ex_i1, hn]
  refine ⟨_, c_swarfref02_FromInt64 _ (by omega) (by omega), ?_⟩
  refine hK3 _ ?_
  refine rgnX_take 1 (fun K4 hK4 => ?_)
  simp (disch := omega) only [go_sem, ex_i0, ex_i1, hn]
  refine ⟨_, c_swarfref02_FromInt64 _ (by omega) (by omega), ?_⟩
  refine hK4 _ ?_
  simp (disch := omega) only [go_sem, ex_i0, ex_i1, hn]
  refine hK2 _ ?_
  clear hK4 K4 hK3 K3 hK2 K2
  refine pwp_seq ?_
  refine pwx_sr 0 [some 17, some 18, some 19, some 20, some 21, some 22, some 23, some 24, some 25, some 26] (by rfl) (fun K5 hK5 => ?_)
  refine rgnX_take 3 (fun K6 hK6 => ?_)
  simp (disch := omega) only [go_sem, ex_i0, ex_i1, hn, h0, decide_false]
  refine ⟨_, c_swarfref05_CmpRat _ _ _ _ (by omega), ?_⟩
  refine hK6 _ ?_
  refine rgnX_take 5 (fun K7 hK7 => ?_)
  simp (disch := omega) only [go_sem, ex_i0, ex_i1, hn, h0, decide_false]
  first | refine ⟨_, c_swarfref05_CmpRat _ _ _ _ (by omega), ?_⟩ | skip
  refine hK7 _ ?_
  simp (disch := omega) only [go_sem, ex_i0, ex_i1, hn, h0, decide_false]
  refine hK5 _ ?_
  clear hK7 K7 hK6 K6 hK5 K5
  refine pwp_cond (b := false) (by rfl) (fun h => nomatch h) (fun _ => ?_)
  refine pwp_skip ?_
  refine n_then ?_
  refine pwx_sr 1 [] (by rfl) (fun K8 hK8 => ?_)
  refine rgnX_take 2 (fun K9 hK9 => ?_)
  simp (disch := omega) only [go_sem, ex_i0, ex_i1, hn]
  refine ⟨_, c_swarfref05_Floor _ _ _ (by assumption), ?_⟩
  refine hK9 _ ?_
  simp (disch := omega) only [go_sem, ex_i0, ex_i1, hn]
  refine hK8 _ ?_
  clear hK9 K9 hK8 K8
  refine pwx_sr 1 [] (by rfl) (fun K10 hK10 => ?_)
  refine rgnX_take 3 (fun K11 hK11 => ?_)
  simp (disch := omega) only [go_sem, ex_i0, ex_i1, hn]
  refine ⟨_, c_swarfref02_Add _ _ (by omega), ?_⟩
  refine hK11 _ ?_
  simp (disch := omega) only [go_sem, ex_i0, ex_i1, hn]
  refine hK10 _ ?_
  clear hK11 K11 hK10 K10
  refine pwp_seq ?_
  refine pwx_sr 0 [] (by rfl) (fun K12 hK12 => ?_)
  refine rgnX_take 3 (fun K13 hK13 => ?_)
  simp (disch := omega) only [go_sem, ex_i0, ex_i1, hn, h1, decide_false]
  refine ⟨_, c_swarfref05_CmpRat _ _ _ _ (by omega), ?_⟩
  refine hK13 _ ?_
  simp (disch := omega) only [go_sem, ex_i0, ex_i1, hn, h1, decide_false]
  refine hK12 _ ?_
  clear hK13 K13 hK12 K12
  refine pwp_cond (b := false) (by rfl) (fun h => nomatch h) (fun _ => ?_)
  refine pwp_skip ?_
  refine n_then ?_
  refine pwx_sd Tryz.mixed 2 [] (by rfl) [] (by kernel_rfl) (by simp) (fun K14 hK14 => ?_)
  refine rgnX_take 3 (fun K15 hK15 => ?_)
  simp (disch := omega) only [go_sem, ex_i0, ex_i1, hn]
  refine ⟨_, c_swarfref05_move _ _ _ _ (by omega), ?_⟩
  refine hK15 _ ?_
  refine rgnX_take 3 (fun K16 hK16 => ?_)
  simp (disch := omega) only [go_sem, ex_i0, ex_i1, hn]
  refine ⟨_, c_swarfref05_move _ _ _ _ (by omega), ?_⟩
  refine hK16 _ ?_
  simp (disch := omega) only [go_sem, ex_i0, ex_i1, hn]
  refine hK14 _ ?_
  clear hK16 K16 hK15 K15 hK14 K14
  refine pwx_sr 1 [] (by rfl) (fun K17 hK17 => ?_)
  simp (disch := omega) only [go_sem, ex_i0, ex_i1, hn]
  refine hK17 _ ?_
  clear hK17 K17
  refine pwp_seq ?_
  refine pwx_sr 0 [] (by rfl) (fun K18 hK18 => ?_)
  refine rgnX_take 3 (fun K19 hK19 => ?_)
  simp (disch := omega) only [go_sem, ex_i0, ex_i1, hn, sub0, h2, decide_false]
  refine ⟨_, c_swarfref05_CmpRat _ _ _ _ (by omega), ?_⟩
  refine hK19 _ ?_
  simp (disch := omega) only [go_sem, ex_i0, ex_i1, hn, sub0, h2, decide_false]
  refine hK18 _ ?_
  clear hK19 K19 hK18 K18
  refine pwp_cond (b := false) (by rfl) (fun h => nomatch h) (fun _ => ?_)
  refine pwx_draw Tryz.mixed 0 [] (by rfl) [] (by kernel_rfl) (by simp) (fun K20 hK20 => ?_)
  refine rgnX_take 2 (fun K21 hK21 => ?_)
  simp (disch := omega) only [go_sem, ex_i0, ex_i1, hn]
  first | refine ⟨_, c_swarfref05_invert _ _ _ (by omega) z' hN1, ?_⟩ | refine ⟨_, c_swarfref05_invert _ _ _ (by omega) z hN2, ?_⟩
  refine hK21 _ ?_
  refine rgnX_take 2 (fun K22 hK22 => ?_)
  simp (disch := omega) only [go_sem, ex_i0, ex_i1, hn]
  first | refine ⟨_, c_swarfref05_invert _ _ _ (by omega) z' hN1, ?_⟩ | refine ⟨_, c_swarfref05_invert _ _ _ (by omega) z hN2, ?_⟩
  refine hK22 _ ?_
  refine rgnX_take 1 (fun K23 hK23 => ?_)
  simp (disch := omega) only [go_sem, ex_i0, ex_i1, hn]
  refine ⟨_, hr, ?_⟩
  refine hK23 _ ?_
  simp (disch := omega) only [go_sem, ex_i0, ex_i1, hn]
  refine hK20 _ ?_
  clear hK23 K23 hK22 K22 hK21 K21 hK20 K20
  refine n_then ?_
  refine pwx_sr 1 [] (by rfl) (fun K24 hK24 => ?_)
  refine rgnX_take 3 (fun K25 hK25 => ?_)
  simp (disch := omega) only [go_sem, ex_i0, ex_i1, hn]
  refine ⟨_, c_swarfref02_Div _ _ (by omega) hy, ?_⟩
  refine hK25 _ ?_
  simp (disch := omega) only [go_sem, ex_i0, ex_i1, hn]
  refine hK24 _ ?_
  clear hK25 K25 hK24 K24
  refine pwx_sr 0 [] (by rfl) (fun K26 hK26 => ?_)
  refine rgnX_take 3 (fun K27 hK27 => ?_)
  simp (disch := omega) only [go_sem, ex_i0, ex_i1, hn]
  refine ⟨_, c_swarfref02_Add _ _ (by omega), ?_⟩
  refine hK27 _ ?_
  simp (disch := omega) only [go_sem, ex_i0, ex_i1, hn]
  refine hK26 _ ?_
  clear hK27 K27 hK26 K26
  refine pwp_ret ?_
  refine ⟨Or.inr rfl, ?_⟩
  simp (disch := omega) only [go_sem, ex_i0, ex_i1, hn]
  all_goals rfl
set_option maxHeartbeats 4000000 in
theorem c_rBetween_3m (a b c a' b' c' : Rat) [SzR a 330] [SzR b 330] [SzR c 330] [SzR a' 330] [SzR b' 330] [SzR c' 330] (hc : Rdc b c) (hc' : Rdc b' c') (n : Int) (hn : flR a b c = n) [SzI n 700] (h0 : ¬ 0 < two (a' - 0) b' c') (z : b = 0 → c = 0) (z' : b' = 0 → c' = 0) (h1 : ¬ 0 < two (a' - ((n : Rat) + 1)) b' c') (h2 : two (a - (n : Rat)) b c = 0) (hN1 : ((a' - (n : Rat)) * (a' - (n : Rat)) - (b') * (b') * c') ≠ 0) (m : Int) (hm : flR ((a' - n) * (1 / ((a' - n) * (a' - n) - (b') * (b') * c'))) (-b' * (1 / ((a' - n) * (a' - n) - (b') * (b') * c'))) (rC (-b' * (1 / ((a' - n) * (a' - n) - (b') * (b') * c'))) c') = m) [SzR ((a' - n) * (1 / ((a' - n) * (a' - n) - (b') * (b') * c'))) 330] [SzR (-b' * (1 / ((a' - n) * (a' - n) - (b') * (b') * c'))) 330] [SzR (rC (-b' * (1 / ((a' - n) * (a' - n) - (b') * (b') * c'))) c') 330] (hr : Rdc (-b' * (1 / ((a' - n) * (a' - n) - (b') * (b') * c'))) (rC (-b' * (1 / ((a' - n) * (a' - n) - (b') * (b') * c'))) c')) [SzI m 1000] (hy : (m : Rat) + 1 ≠ 0) :
    Ret Tryz.prog 28 [.a (ratC (a) ++ (ratC (b) ++ ratC (c))), .a (ratC (a') ++ (ratC (b') ++ ratC (c')))] (.e (.a (ratC ((n : Rat) + 1 / ((m : Rat) + 1))))) := by
  refine ret_of_body (md := {}) Tryz.func28 (by kernel_rfl) rfl ?_
  simp only [Tryz.f28, List.map_cons, List.map_nil, List.length_cons, List.length_nil, Nat.zero_add, Nat.reduceAdd, Nat.reduceSub, List.reduceReplicate, List.cons_append, List.nil_append]
  refine pwx_sr 3 [] (by rfl) (fun K1 hK1 => ?_)
  simp (disch := omega) only [go_sem, ex_i0, ex_i1, hn, hm]
  refine hK1 _ ?_
  clear hK1 K1
  refine pwx_sr 2 [] (by rfl) (fun K2 hK2 => ?_)
  refine rgnX_take 1 (fun K3 hK3 => ?_)
  simp (disch := omega) only [go_sem, ex_i0, ex_i1, hn, hm]
  refine ⟨_, c_swarfref02_FromInt64 _ (by omega) (by omega), ?_⟩
  refine hK3 _ ?_
  refine rgnX_take 1 (fun K4 hK4 => ?_)
  simp (disch := omega) only [go_sem, ex_i0, ex_i1, hn, hm]
  refine ⟨_, c_swarfref02_FromInt64 _ (by omega) (by omega), ?_⟩
  refine hK4 _ ?_
  simp (disch := omega) only [go_sem, ex_i0, ex_i1, hn, hm]
  refine hK2 _ ?_
  clear hK4 K4 hK3 K3 hK2 K2
  refine pwp_seq ?_
  by_cases k0 : two (a - 0) b c < 0
  · refine pwx_sr 0 [some 17, some 18, some 19, some 20, some 21, some 22, some 23, some 24, some 25, some 26] (by rfl) (fun K5 hK5 => ?_)
    refine rgnX_take 3 (fun K6 hK6 => ?_)
    simp (disch := omega) only [go_sem, ex_i0, ex_i1, hn, hm, h0, decide_false, k0, decide_true]
    refine ⟨_, c_swarfref05_CmpRat _ _ _ _ (by omega), ?_⟩
    refine hK6 _ ?_
    refine rgnX_take 5 (fun K7 hK7 => ?_)
    simp (disch := omega) only [go_sem, ex_i0, ex_i1, hn, hm, h0, decide_false, k0, decide_true]
    first | refine ⟨_, c_swarfref05_CmpRat _ _ _ _ (by omega), ?_⟩ | skip
    refine hK7 _ ?_
    simp (disch := omega) only [go_sem, ex_i0, ex_i1, hn, hm, h0, decide_false, k0, decide_true]
    refine hK5 _ ?_
    clear hK7 K7 hK6 K6 hK5 K5
    refine pwp_cond (b := false) (by rfl) (fun h => nomatch h) (fun _ => ?_)
    refine pwp_skip ?_
    refine n_then ?_
    refine pwx_sr 1 [] (by rfl) (fun K8 hK8 => ?_)
    refine rgnX_take 2 (fun K9 hK9 => ?_)
    simp (disch := omega) only [go_sem, ex_i0, ex_i1, hn, hm]
    refine ⟨_, c_swarfref05_Floor _ _ _ (by assumption), ?_⟩
    refine hK9 _ ?_
    simp (disch := omega) only [go_sem, ex_i0, ex_i1, hn, hm]
    refine hK8 _ ?_
    clear hK9 K9 hK8 K8
    refine pwx_sr 1 [] (by rfl) (fun K10 hK10 => ?_)
    refine rgnX_take 3 (fun K11 hK11 => ?_)
    simp (disch := omega) only [go_sem, ex_i0, ex_i1, hn, hm]
    refine ⟨_, c_swarfref02_Add _ _ (by omega), ?_⟩
    refine hK11 _ ?_
    simp (disch := omega) only [go_sem, ex_i0, ex_i1, hn, hm]
    refine hK10 _ ?_
    clear hK11 K11 hK10 K10
    refine pwp_seq ?_
    refine pwx_sr 0 [] (by rfl) (fun K12 hK12 => ?_)
    refine rgnX_take 3 (fun K13 hK13 => ?_)
    simp (disch := omega) only [go_sem, ex_i0, ex_i1, hn, hm, h1, decide_false]
    refine ⟨_, c_swarfref05_CmpRat _ _ _ _ (by omega), ?_⟩
    refine hK13 _ ?_
    simp (disch := omega) only [go_sem, ex_i0, ex_i1, hn, hm, h1, decide_false]
    refine hK12 _ ?_
    clear hK13 K13 hK12 K12
    refine pwp_cond (b := false) (by rfl) (fun h => nomatch h) (fun _ => ?_)
    refine pwp_skip ?_
    refine n_then ?_
    refine pwx_sd Tryz.mixed 2 [] (by rfl) [] (by kernel_rfl) (by simp) (fun K14 hK14 => ?_)
    refine rgnX_take 3 (fun K15 hK15 => ?_)
    simp (disch := omega) only [go_sem, ex_i0, ex_i1, hn, hm]
    refine ⟨_, c_swarfref05_move _ _ _ _ (by omega), ?_⟩
    refine hK15 _ ?_
    refine rgnX_take 3 (fun K16 hK16 => ?_)
    simp (disch := omega) only [go_sem, ex_i0, ex_i1, hn, hm]
    refine ⟨_, c_swarfref05_move _ _ _ _ (by omega), ?_⟩
    refine hK16 _ ?_
    simp (disch := omega) only [go_sem, ex_i0, ex_i1, hn, hm]
    refine hK14 _ ?_
    clear hK16 K16 hK15 K15 hK14 K14
    refine pwx_sr 1 [] (by rfl) (fun K17 hK17 => ?_)
    simp (disch := omega) only [go_sem, ex_i0, ex_i1, hn, hm]
    refine hK17 _ ?_
    clear hK17 K17
    refine pwp_seq ?_
    refine pwx_sr 0 [] (by rfl) (fun K18 hK18 => ?_)
    refine rgnX_take 3 (fun K19 hK19 => ?_)
    simp (disch := omega) only [go_sem, ex_i0, ex_i1, hn, hm, sub0, h2, decide_true]
    refine ⟨_, c_swarfref05_CmpRat _ _ _ _ (by omega), ?_⟩
    refine hK19 _ ?_
    simp (disch := omega) only [go_sem, ex_i0, ex_i1, hn, hm, sub0, h2, decide_true]
    refine hK18 _ ?_
    clear hK19 K19 hK18 K18
    refine pwp_cond (b := true) (by rfl) (fun _ => ?_) (fun h => nomatch h)
    refine pwx_draw Tryz.mixed 0 [] (by rfl) [] (by kernel_rfl) (by simp) (fun K20 hK20 => ?_)
    refine rgnX_take 2 (fun K21 hK21 => ?_)
    simp (disch := omega) only [go_sem, ex_i0, ex_i1, hn, hm]
    first | refine ⟨_, c_swarfref05_invert _ _ _ (by omega) z' hN1, ?_⟩ | refine ⟨_, c_swarfref05_invert _ _ _ (by omega) z hN2, ?_⟩
    refine hK21 _ ?_
    refine rgnX_take 1 (fun K22 hK22 => ?_)
    simp (disch := omega) only [go_sem, ex_i0, ex_i1, hn, hm]
    refine ⟨_, c_swarfref05_Floor _ _ _ (by assumption), ?_⟩
    refine hK22 _ ?_
    refine rgnX_take 2 (fun K23 hK23 => ?_)
    simp (disch := omega) only [go_sem, ex_i0, ex_i1, hn, hm]
    refine ⟨_, c_swarfref02_Add _ _ (by omega), ?_⟩
    refine hK23 _ ?_
    simp (disch := omega) only [go_sem, ex_i0, ex_i1, hn, hm]
    refine hK20 _ ?_
    clear hK23 K23 hK22 K22 hK21 K21 hK20 K20
    refine n_then ?_
    refine pwx_sr 1 [] (by rfl) (fun K24 hK24 => ?_)
    refine rgnX_take 3 (fun K25 hK25 => ?_)
    simp (disch := omega) only [go_sem, ex_i0, ex_i1, hn, hm]
    refine ⟨_, c_swarfref02_Div _ _ (by omega) hy, ?_⟩
    refine hK25 _ ?_
    simp (disch := omega) only [go_sem, ex_i0, ex_i1, hn, hm]
    refine hK24 _ ?_
    clear hK25 K25 hK24 K24
    refine pwx_sr 0 [] (by rfl) (fun K26 hK26 => ?_)
    refine rgnX_take 3 (fun K27 hK27 => ?_)
    simp (disch := omega) only [go_sem, ex_i0, ex_i1, hn, hm]
    refine ⟨_, c_swarfref02_Add _ _ (by omega), ?_⟩
    refine hK27 _ ?_
    simp (disch := omega) only [go_sem, ex_i0, ex_i1, hn, hm]
    refine hK26 _ ?_
    clear hK27 K27 hK26 K26
    refine pwp_ret ?_
    refine ⟨Or.inr rfl, ?_⟩
    simp (disch := omega) only [go_sem, ex_i0, ex_i1, hn, hm]
    all_goals rfl
  · refine pwx_sr 0 [some 17, some 18, some 19, some 20, some 21, some 22, some 23, some 24, some 25, some 26] (by rfl) (fun K28 hK28 => ?_)
    refine rgnX_take 3 (fun K29 hK29 => ?_)
    simp (disch := omega) only [go_sem, ex_i0, ex_i1, hn, hm, h0, decide_false, k0, decide_true]
    refine ⟨_, c_swarfref05_CmpRat _ _ _ _ (by omega), ?_⟩
    refine hK29 _ ?_
    refine rgnX_take 5 (fun K30 hK30 => ?_)
    simp (disch := omega) only [go_sem, ex_i0, ex_i1, hn, hm, h0, decide_false, k0, decide_true]
    first | refine ⟨_, c_swarfref05_CmpRat _ _ _ _ (by omega), ?_⟩ | skip
    refine hK30 _ ?_
    simp (disch := omega) only [go_sem, ex_i0, ex_i1, hn, hm, h0, decide_false, k0, decide_true]
    refine hK28 _ ?_
    clear hK30 K30 hK29 K29 hK28 K28
    refine pwp_cond (b := false) (by rfl) (fun h => nomatch h) (fun _ => ?_)
    refine pwp_skip ?_
    refine n_then ?_
    refine pwx_sr 1 [] (by rfl) (fun K31 hK31 => ?_)
    refine rgnX_take 2 (fun K32 hK32 => ?_)
    simp (disch := omega) only [go_sem, ex_i0, ex_i1, hn, hm]
    refine ⟨_, c_swarfref05_Floor _ _ _ (by assumption), ?_⟩
    refine hK32 _ ?_
    simp (disch := omega) only [go_sem, ex_i0, ex_i1, hn, hm]
    refine hK31 _ ?_
    clear hK32 K32 hK31 K31
    refine pwx_sr 1 [] (by rfl) (fun K33 hK33 => ?_)
    refine rgnX_take 3 (fun K34 hK34 => ?_)
    simp (disch := omega) only [go_sem, ex_i0, ex_i1, hn, hm]
    refine ⟨_, c_swarfref02_Add _ _ (by omega), ?_⟩
    refine hK34 _ ?_
    simp (disch := omega) only [go_sem, ex_i0, ex_i1, hn, hm]
    refine hK33 _ ?_
    clear hK34 K34 hK33 K33
    refine pwp_seq ?_
    refine pwx_sr 0 [] (by rfl) (fun K35 hK35 => ?_)
    refine rgnX_take 3 (fun K36 hK36 => ?_)
    simp (disch := omega) only [go_sem, ex_i0, ex_i1, hn, hm, h1, decide_false]
    refine ⟨_, c_swarfref05_CmpRat _ _ _ _ (by omega), ?_⟩
    refine hK36 _ ?_
    simp (disch := omega) only [go_sem, ex_i0, ex_i1, hn, hm, h1, decide_false]
    refine hK35 _ ?_
    clear hK36 K36 hK35 K35
    refine pwp_cond (b := false) (by rfl) (fun h => nomatch h) (fun _ => ?_)
    refine pwp_skip ?_
    refine n_then ?_
    refine pwx_sd Tryz.mixed 2 [] (by rfl) [] (by kernel_rfl) (by simp) (fun K37 hK37 => ?_)
    refine rgnX_take 3 (fun K38 hK38 => ?_)
    simp (disch := omega) only [go_sem, ex_i0, ex_i1, hn, hm]
    refine ⟨_, c_swarfref05_move _ _ _ _ (by omega), ?_⟩
    refine hK38 _ ?_
    refine rgnX_take 3 (fun K39 hK39 => ?_)
    simp (disch := omega) only [go_sem, ex_i0, ex_i1, hn, hm]
    refine ⟨_, c_swarfref05_move _ _ _ _ (by omega), ?_⟩
    refine hK39 _ ?_
    simp (disch := omega) only [go_sem, ex_i0, ex_i1, hn, hm]
    refine hK37 _ ?_
    clear hK39 K39 hK38 K38 hK37 K37
    refine pwx_sr 1 [] (by rfl) (fun K40 hK40 => ?_)
    simp (disch := omega) only [go_sem, ex_i0, ex_i1, hn, hm]
    refine hK40 _ ?_
    clear hK40 K40
    refine pwp_seq ?_
    refine pwx_sr 0 [] (by rfl) (fun K41 hK41 => ?_)
    refine rgnX_take 3 (fun K42 hK42 => ?_)
    simp (disch := omega) only [go_sem, ex_i0, ex_i1, hn, hm, sub0, h2, decide_true]
    refine ⟨_, c_swarfref05_CmpRat _ _ _ _ (by omega), ?_⟩
    refine hK42 _ ?_
    simp (disch := omega) only [go_sem, ex_i0, ex_i1, hn, hm, sub0, h2, decide_true]
    refine hK41 _ ?_
    clear hK42 K42 hK41 K41
    refine pwp_cond (b := true) (by rfl) (fun _ => ?_) (fun h => nomatch h)
    refine pwx_draw Tryz.mixed 0 [] (by rfl) [] (by kernel_rfl) (by simp) (fun K43 hK43 => ?_)
    refine rgnX_take 2 (fun K44 hK44 => ?_)
    simp (disch := omega) only [go_sem, ex_i0, ex_i1, hn, hm]
    first | refine ⟨_, c_swarfref05_invert _ _ _ (by omega) z' hN1, ?_⟩ | refine ⟨_, c_swarfref05_invert _ _ _ (by omega) z hN2, ?_⟩
    refine hK44 _ ?_
    refine rgnX_take 1 (fun K45 hK45 => ?_)
    simp (disch := omega) only [go_sem, ex_i0, ex_i1, hn, hm]
    refine ⟨_, c_swarfref05_Floor _ _ _ (by assumption), ?_⟩
    refine hK45 _ ?_
    refine rgnX_take 2 (fun K46 hK46 => ?_)
    simp (disch := omega) only [go_sem, ex_i0, ex_i1, hn, hm]
    refine ⟨_, c_swarfref02_Add _ _ (by omega), ?_⟩
    refine hK46 _ ?_
    simp (disch := omega) only [go_sem, ex_i0, ex_i1, hn, hm]
    refine hK43 _ ?_
    clear hK46 K46 hK45 K45 hK44 K44 hK43 K43
    refine n_then ?_
    refine pwx_sr 1 [] (by rfl) (fun K47 hK47 => ?_)
    refine rgnX_take 3 (fun K48 hK48 => ?_)
    simp (disch := omega) only [go_sem, ex_i0, ex_i1, hn, hm]
    refine ⟨_, c_swarfref02_Div _ _ (by omega) hy, ?_⟩
    refine hK48 _ ?_
    simp (disch := omega) only [go_sem, ex_i0, ex_i1, hn, hm]
    refine hK47 _ ?_
    clear hK48 K48 hK47 K47
    refine pwx_sr 0 [] (by rfl) (fun K49 hK49 => ?_)
    refine rgnX_take 3 (fun K50 hK50 => ?_)
    simp (disch := omega) only [go_sem, ex_i0, ex_i1, hn, hm]
    refine ⟨_, c_swarfref02_Add _ _ (by omega), ?_⟩
    refine hK50 _ ?_
    simp (disch := omega) only [go_sem, ex_i0, ex_i1, hn, hm]
    refine hK49 _ ?_
    clear hK50 K50 hK49 K49
    refine pwp_ret ?_
    refine ⟨Or.inr rfl, ?_⟩
    simp (disch := omega) only [go_sem, ex_i0, ex_i1, hn, hm]
    all_goals rfl
set_option maxHeartbeats 4000000 in
theorem c_rBetween_4m (a b c a' b' c' : Rat) [SzR a 330] [SzR b 330] [SzR c 330] [SzR a' 330] [SzR b' 330] [SzR c' 330] (hc : Rdc b c) (hc' : Rdc b' c') (n : Int) (hn : flR a b c = n) [SzI n 700] (h0 : ¬ 0 < two (a' - 0) b' c') (z : b = 0 → c = 0) (z' : b' = 0 → c' = 0) (h1 : ¬ 0 < two (a' - ((n : Rat) + 1)) b' c') (h2 : ¬ two (a - (n : Rat)) b c = 0) (hN1 : ((a' - (n : Rat)) * (a' - (n : Rat)) - (b') * (b') * c') ≠ 0) (hN2 : ((a - (n : Rat)) * (a - (n : Rat)) - (b) * (b) * c) ≠ 0) (y : Rat) [SzR y 1000] (hy : y ≠ 0) (hr : Ret Tryz.prog 28 [.a (ratC ((a' - n) * (1 / ((a' - n) * (a' - n) - (b') * (b') * c'))) ++ (ratC (-b' * (1 / ((a' - n) * (a' - n) - (b') * (b') * c'))) ++ ratC (rC (-b' * (1 / ((a' - n) * (a' - n) - (b') * (b') * c'))) c'))), .a (ratC ((a - n) * (1 / ((a - n) * (a - n) - (b) * (b) * c))) ++ (ratC (-b * (1 / ((a - n) * (a - n) - (b) * (b) * c))) ++ ratC (rC (-b * (1 / ((a - n) * (a - n) - (b) * (b) * c))) c)))] (.e (.a (ratC y)))) :
    Ret Tryz.prog 28 [.a (ratC (a) ++ (ratC (b) ++ ratC (c))), .a (ratC (a') ++ (ratC (b') ++ ratC (c')))] (.e (.a (ratC ((n : Rat) + 1 / y)))) := by
  refine ret_of_body (md := {}) Tryz.func28 (by kernel_rfl) rfl ?_
  simp only [Tryz.f28, List.map_cons, List.map_nil, List.length_cons, List.length_nil, Nat.zero_add, Nat.reduceAdd, Nat.reduceSub, List.reduceReplicate, List.cons_append, List.nil_append]
  refine pwx_sr 3 [] (by rfl) (fun K1 hK1 => ?_)
  simp (disch := omega) only [go_sem, ex_i0, ex_i1, hn]
  refine hK1 _ ?_
  clear hK1 K1
  refine pwx_sr 2 [] (by rfl) (fun K2 hK2 => ?_)
  refine rgnX_take 1 (fun K3 hK3 => ?_)
  simp (disch := omega) only [go_sem, ex_i0, ex_i1, hn]
  refine ⟨_, c_swarfref02_FromInt64 _ (by omega) (by omega), ?_⟩
  refine hK3 _ ?_
  refine rgnX_take 1 (fun K4 hK4 => ?_)
  simp (disch := omega) only [go_sem, ex_i0, ex_i1, hn]
  refine ⟨_, c_swarfref02_FromInt64 _ (by omega) (by omega), ?_⟩
  refine hK4 _ ?_
  simp (disch := omega) only [go_sem, ex_i0, ex_i1, hn]
  refine hK2 _ ?_
  clear hK4 K4 hK3 K3 hK2 K2
  refine pwp_seq ?_
  by_cases k0 : two (a - 0) b c < 0
  · refine pwx_sr 0 [some 17, some 18, some 19, some 20, some 21, some 22, some 23, some 24, some 25, some 26] (by rfl) (fun K5 hK5 => ?_)
    refine rgnX_take 3 (fun K6 hK6 => ?_)
    simp (disch := omega) only [go_sem, ex_i0, ex_i1, hn, h0, decide_false, k0, decide_true]
    refine ⟨_, c_swarfref05_CmpRat _ _ _ _ (by omega), ?_⟩
    refine hK6 _ ?_
    refine rgnX_take 5 (fun K7 hK7 => ?_)
    simp (disch := omega) only [go_sem, ex_i0, ex_i1, hn, h0, decide_false, k0, decide_true]
    first | refine ⟨_, c_swarfref05_CmpRat _ _ _ _ (by omega), ?_⟩ | skip
    refine hK7 _ ?_
    simp (disch := omega) only [go_sem, ex_i0, ex_i1, hn, h0, decide_false, k0, decide_true]
    refine hK5 _ ?_
    clear hK7 K7 hK6 K6 hK5 K5
    refine pwp_cond (b := false) (by rfl) (fun h => nomatch h) (fun _ => ?_)
    refine pwp_skip ?_
    refine n_then ?_
    refine pwx_sr 1 [] (by rfl) (fun K8 hK8 => ?_)
    refine rgnX_take 2 (fun K9 hK9 => ?_)
    simp (disch := omega) only [go_sem, ex_i0, ex_i1, hn]
    refine ⟨_, c_swarfref05_Floor _ _ _ (by assumption), ?_⟩
    refine hK9 _ ?_
    simp (disch := omega) only [go_sem, ex_i0, ex_i1, hn]
    refine hK8 _ ?_
    clear hK9 K9 hK8 K8
    refine pwx_sr 1 [] (by rfl) (fun K10 hK10 => ?_)
    refine rgnX_take 3 (fun K11 hK11 => ?_)
    simp (disch := omega) only [go_sem, ex_i0, ex_i1, hn]
    refine ⟨_, c_swarfref02_Add _ _ (by omega), ?_⟩
    refine hK11 _ ?_
    simp (disch := omega) only [go_sem, ex_i0, ex_i1, hn]
    refine hK10 _ ?_
    clear hK11 K11 hK10 K10
    refine pwp_seq ?_
    refine pwx_sr 0 [] (by rfl) (fun K12 hK12 => ?_)
    refine rgnX_take 3 (fun K13 hK13 => ?_)
    simp (disch := omega) only [go_sem, ex_i0, ex_i1, hn, h1, decide_false]
    refine ⟨_, c_swarfref05_CmpRat _ _ _ _ (by omega), ?_⟩
    refine hK13 _ ?_
    simp (disch := omega) only [go_sem, ex_i0, ex_i1, hn, h1, decide_false]
    refine hK12 _ ?_
    clear hK13 K13 hK12 K12
    refine pwp_cond (b := false) (by rfl) (fun h => nomatch h) (fun _ => ?_)
    refine pwp_skip ?_
    refine n_then ?_
    refine pwx_sd Tryz.mixed 2 [] (by rfl) [] (by kernel_rfl) (by simp) (fun K14 hK14 => ?_)
    refine rgnX_take 3 (fun K15 hK15 => ?_)
    simp (disch := omega) only [go_sem, ex_i0, ex_i1, hn]
    refine ⟨_, c_swarfref05_move _ _ _ _ (by omega), ?_⟩
    refine hK15 _ ?_
    refine rgnX_take 3 (fun K16 hK16 => ?_)
    simp (disch := omega) only [go_sem, ex_i0, ex_i1, hn]
    refine ⟨_, c_swarfref05_move _ _ _ _ (by omega), ?_⟩
    refine hK16 _ ?_
    simp (disch := omega) only [go_sem, ex_i0, ex_i1, hn]
    refine hK14 _ ?_
    clear hK16 K16 hK15 K15 hK14 K14
    refine pwx_sr 1 [] (by rfl) (fun K17 hK17 => ?_)
    simp (disch := omega) only [go_sem, ex_i0, ex_i1, hn]
    refine hK17 _ ?_
    clear hK17 K17
    refine pwp_seq ?_
    refine pwx_sr 0 [] (by rfl) (fun K18 hK18 => ?_)
    refine rgnX_take 3 (fun K19 hK19 => ?_)
    simp (disch := omega) only [go_sem, ex_i0, ex_i1, hn, sub0, h2, decide_false]
    refine ⟨_, c_swarfref05_CmpRat _ _ _ _ (by omega), ?_⟩
    refine hK19 _ ?_
    simp (disch := omega) only [go_sem, ex_i0, ex_i1, hn, sub0, h2, decide_false]
    refine hK18 _ ?_
    clear hK19 K19 hK18 K18
    refine pwp_cond (b := false) (by rfl) (fun h => nomatch h) (fun _ => ?_)
    refine pwx_draw Tryz.mixed 0 [] (by rfl) [] (by kernel_rfl) (by simp) (fun K20 hK20 => ?_)
    refine rgnX_take 2 (fun K21 hK21 => ?_)
    simp (disch := omega) only [go_sem, ex_i0, ex_i1, hn]
    first | refine ⟨_, c_swarfref05_invert _ _ _ (by omega) z' hN1, ?_⟩ | refine ⟨_, c_swarfref05_invert _ _ _ (by omega) z hN2, ?_⟩
    refine hK21 _ ?_
    refine rgnX_take 2 (fun K22 hK22 => ?_)
    simp (disch := omega) only [go_sem, ex_i0, ex_i1, hn]
    first | refine ⟨_, c_swarfref05_invert _ _ _ (by omega) z' hN1, ?_⟩ | refine ⟨_, c_swarfref05_invert _ _ _ (by omega) z hN2, ?_⟩
    refine hK22 _ ?_
    refine rgnX_take 1 (fun K23 hK23 => ?_)
    simp (disch := omega) only [go_sem, ex_i0, ex_i1, hn]
    refine ⟨_, hr, ?_⟩
    refine hK23 _ ?_
    simp (disch := omega) only [go_sem, ex_i0, ex_i1, hn]
    refine hK20 _ ?_
    clear hK23 K23 hK22 K22 hK21 K21 hK20 K20
    refine n_then ?_
    refine pwx_sr 1 [] (by rfl) (fun K24 hK24 => ?_)
    refine rgnX_take 3 (fun K25 hK25 => ?_)
    simp (disch := omega) only [go_sem, ex_i0, ex_i1, hn]
    refine ⟨_, c_swarfref02_Div _ _ (by omega) hy, ?_⟩
    refine hK25 _ ?_
    simp (disch := omega) only [go_sem, ex_i0, ex_i1, hn]
    refine hK24 _ ?_
    clear hK25 K25 hK24 K24
    refine pwx_sr 0 [] (by rfl) (fun K26 hK26 => ?_)
    refine rgnX_take 3 (fun K27 hK27 => ?_)
    simp (disch := omega) only [go_sem, ex_i0, ex_i1, hn]
    refine ⟨_, c_swarfref02_Add _ _ (by omega), ?_⟩
    refine hK27 _ ?_
    simp (disch := omega) only [go_sem, ex_i0, ex_i1, hn]
    refine hK26 _ ?_
    clear hK27 K27 hK26 K26
    refine pwp_ret ?_
    refine ⟨Or.inr rfl, ?_⟩
    simp (disch := omega) only [go_sem, ex_i0, ex_i1, hn]
    all_goals rfl
  · refine pwx_sr 0 [some 17, some 18, some 19, some 20, some 21, some 22, some 23, some 24, some 25, some 26] (by rfl) (fun K28 hK28 => ?_)
    refine rgnX_take 3 (fun K29 hK29 => ?_)
    simp (disch := omega) only [go_sem, ex_i0, ex_i1, hn, h0, decide_false, k0, decide_true]
    refine ⟨_, c_swarfref05_CmpRat _ _ _ _ (by omega), ?_⟩
    refine hK29 _ ?_
    refine rgnX_take 5 (fun K30 hK30 => ?_)
    simp (disch := omega) only [go_sem, ex_i0, ex_i1, hn, h0, decide_false, k0, decide_true]
    first | refine ⟨_, c_swarfref05_CmpRat _ _ _ _ (by omega), ?_⟩ | skip
    refine hK30 _ ?_
    simp (disch := omega) only [go_sem, ex_i0, ex_i1, hn, h0, decide_false, k0, decide_true]
    refine hK28 _ ?_
    clear hK30 K30 hK29 K29 hK28 K28
    refine pwp_cond (b := false) (by rfl) (fun h => nomatch h) (fun _ => ?_)
    refine pwp_skip ?_
    refine n_then ?_
    refine pwx_sr 1 [] (by rfl) (fun K31 hK31 => ?_)
    refine rgnX_take 2 (fun K32 hK32 => ?_)
    simp (disch := omega) only [go_sem, ex_i0, ex_i1, hn]
    refine ⟨_, c_swarfref05_Floor _ _ _ (by assumption), ?_⟩
    refine hK32 _ ?_
    simp (disch := omega) only [go_sem, ex_i0, ex_i1, hn]
    refine hK31 _ ?_
    clear hK32 K32 hK31 K31
    refine pwx_sr 1 [] (by rfl) (fun K33 hK33 => ?_)
    refine rgnX_take 3 (fun K34 hK34 => ?_)
    simp (disch := omega) only [go_sem, ex_i0, ex_i1, hn]
    refine ⟨_, c_swarfref02_Add _ _ (by omega), ?_⟩
    refine hK34 _ ?_
    simp (disch := omega) only [go_sem, ex_i0, ex_i1, hn]
    refine hK33 _ ?_
    clear hK34 K34 hK33 K33
    refine pwp_seq ?_
    refine pwx_sr 0 [] (by rfl) (fun K35 hK35 => ?_)
    refine rgnX_take 3 (fun K36 hK36 => ?_)
    simp (disch := omega) only [go_sem, ex_i0, ex_i1, hn, h1, decide_false]
    refine ⟨_, c_swarfref05_CmpRat _ _ _ _ (by omega), ?_⟩
    refine hK36 _ ?_
    simp (disch := omega) only [go_sem, ex_i0, ex_i1, hn, h1, decide_false]
    refine hK35 _ ?_
    clear hK36 K36 hK35 K35
    refine pwp_cond (b := false) (by rfl) (fun h => nomatch h) (fun _ => ?_)
    refine pwp_skip ?_
    refine n_then ?_
    refine pwx_sd Tryz.mixed 2 [] (by rfl) [] (by kernel_rfl) (by simp) (fun K37 hK37 => ?_)
    refine rgnX_take 3 (fun K38 hK38 => ?_)
    simp (disch := omega) only [go_sem, ex_i0, ex_i1, hn]
    refine ⟨_, c_swarfref05_move _ _ _ _ (by omega), ?_⟩
    refine hK38 _ ?_
    refine rgnX_take 3 (fun K39 hK39 => ?_)
    simp (disch := omega) only [go_sem, ex_i0, ex_i1, hn]
    refine ⟨_, c_swarfref05_move _ _ _ _ (by omega), ?_⟩
    refine hK39 _ ?_
    simp (disch := omega) only [go_sem, ex_i0, ex_i1, hn]
    refine hK37 _ ?_
    clear hK39 K39 hK38 K38 hK37 K37
    refine pwx_sr 1 [] (by rfl) (fun K40 hK40 => ?_)
    simp (disch := omega) only [go_sem, ex_i0, ex_i1, hn]
    refine hK40 _ ?_
    clear hK40 K40
    refine pwp_seq ?_
    refine pwx_sr 0 [] (by rfl) (fun K41 hK41 => ?_)
    refine rgnX_take 3 (fun K42 hK42 => ?_)
    simp (disch := omega) only [go_sem, ex_i0, ex_i1, hn, sub0, h2, decide_false]
    refine ⟨_, c_swarfref05_CmpRat _ _ _ _ (by omega), ?_⟩
    refine hK42 _ ?_
    simp (disch := omega) only [go_sem, ex_i0, ex_i1, hn, sub0, h2, decide_false]
    refine hK41 _ ?_
    clear hK42 K42 hK41 K41
    refine pwp_cond (b := false) (by rfl) (fun h => nomatch h) (fun _ => ?_)
    refine pwx_draw Tryz.mixed 0 [] (by rfl) [] (by kernel_rfl) (by simp) (fun K43 hK43 => ?_)
    refine rgnX_take 2 (fun K44 hK44 => ?_)
    simp (disch := omega) only [go_sem, ex_i0, ex_i1, hn]
    first | refine ⟨_, c_swarfref05_invert _ _ _ (by omega) z' hN1, ?_⟩ | refine ⟨_, c_swarfref05_invert _ _ _ (by omega) z hN2, ?_⟩
    refine hK44 _ ?_
    refine rgnX_take 2 (fun K45 hK45 => ?_)
    simp (disch := omega) only [go_sem, ex_i0, ex_i1, hn]
    first | refine ⟨_, c_swarfref05_invert _ _ _ (by omega) z' hN1, ?_⟩ | refine ⟨_, c_swarfref05_invert _ _ _ (by omega) z hN2, ?_⟩
    refine hK45 _ ?_
    refine rgnX_take 1 (fun K46 hK46 => ?_)
    simp (disch := omega) only [go_sem, ex_i0, ex_i1, hn]
    refine ⟨_, hr, ?_⟩
    refine hK46 _ ?_
    simp (disch := omega) only [go_sem, ex_i0, ex_i1, hn]
    refine hK43 _ ?_
    clear hK46 K46 hK45 K45 hK44 K44 hK43 K43
    refine n_then ?_
    refine pwx_sr 1 [] (by rfl) (fun K47 hK47 => ?_)
    refine rgnX_take 3 (fun K48 hK48 => ?_)
    simp (disch := omega) only [go_sem, ex_i0, ex_i1, hn]
    refine ⟨_, c_swarfref02_Div _ _ (by omega) hy, ?_⟩
    refine hK48 _ ?_
    simp (disch := omega) only [go_sem, ex_i0, ex_i1, hn]
    refine hK47 _ ?_
    clear hK48 K48 hK47 K47
    refine pwx_sr 0 [] (by rfl) (fun K49 hK49 => ?_)
    refine rgnX_take 3 (fun K50 hK50 => ?_)
    simp (disch := omega) only [go_sem, ex_i0, ex_i1, hn]
    refine ⟨_, c_swarfref02_Add _ _ (by omega), ?_⟩
    refine hK50 _ ?_
    simp (disch := omega) only [go_sem, ex_i0, ex_i1, hn]
    refine hK49 _ ?_
    clear hK50 K50 hK49 K49
    refine pwp_ret ?_
    refine ⟨Or.inr rfl, ?_⟩
    simp (disch := omega) only [go_sem, ex_i0, ex_i1, hn]
    all_goals rfl
theorem r_rBetween {a b c a' b' c' x : Rat} (h : Bt a b c a' b' c' x) : Ret Tryz.prog 28 [.a (ratC (a) ++ (ratC (b) ++ ratC (c))), .a (ratC (a') ++ (ratC (b') ++ ratC (c')))] (.e (.a (ratC x))) := by
  induction h with
  | next e h1 => haveI := e.sa; haveI := e.sb; haveI := e.sc; haveI := e.sa'; haveI := e.sb'; haveI := e.sc'; haveI := e.sn; have h0 := Int.not_lt.2 e.h0; exact c_rBetween_1 _ _ _ _ _ _ e.hc e.hc' _ e.hn h0 h1
  | last e h1 h2 hs hN hm sA sB sC hr sm hy => haveI := e.sa; haveI := e.sb; haveI := e.sc; haveI := e.sa'; haveI := e.sb'; haveI := e.sc'; haveI := e.sn; have h0 := Int.not_lt.2 e.h0; exact c_rBetween_3p _ _ _ _ _ _ e.hc e.hc' _ e.hn h0 e.z e.z' h1 h2 hN _ hm hr hy
  | step e h1 h2 hs hN hs' hN' sA sB sC sA' sB' sC' sy hy r ih => haveI := e.sa; haveI := e.sb; haveI := e.sc; haveI := e.sa'; haveI := e.sb'; haveI := e.sc'; haveI := e.sn; have h0 := Int.not_lt.2 e.h0; exact c_rBetween_4p _ _ _ _ _ _ e.hc e.hc' _ e.hn h0 e.z e.z' h1 h2 hN hN' _ hy ih

end Go.Proofs.YtdojhoegildiaaaGreat
