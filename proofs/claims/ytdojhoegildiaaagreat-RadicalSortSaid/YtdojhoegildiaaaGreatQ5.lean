/- Numbers as sequences of fractions that settle: their signs, their order, square roots. Conditions: each lemma's own.
   Signs of sums with two square roots, and intervals that contain numbers. Conditions: each lemma's own.
   Fractions in the walks: sizes, lowest terms, order. Conditions: each lemma's own.
   The walks of fractions, first part. Conditions: none.
   Fractions in the walks, second part: square roots, validity. Conditions: each lemma's own.
   The walks of fractions, second part. Conditions: none.
   The walks of the reference's fractions. Conditions: none.
   Roots in the walks. Conditions: each lemma's own.
   The walks of the reference's roots, first part. Conditions: none.
   The walks of the reference's roots, second part. Conditions: none.
   The walks of the reference's roots, third part. Conditions: none.
   The walks of roots. Conditions: none.
   Machine words in the walks: bits. Conditions: each lemma's own.
   The walks of intervals, first part. Conditions: none.
   Intervals in the walks: what the functions compute. Conditions: each lemma's own.
   The walks of intervals, second part. Conditions: none.
   The walks of intervals, third part. Conditions: none.
   The walks of intervals, fourth part. Conditions: none.
   The walks of intervals, fifth part. Conditions: none.
   The interval of a root in the walks. Conditions: each lemma's own. -/
import Derived.Test.YtdojhoegildiaaaGreatQ4
set_option linter.unusedVariables false
set_option linter.unusedSimpArgs false
namespace Go.RL

def ab (x : Rat) : Rat := if 0 ≤ x then x else -x
theorem ab_le {x e : Rat} : ab x ≤ e ↔ -e ≤ x ∧ x ≤ e := by unfold ab; split <;> grind
theorem ab_nonneg (x : Rat) : 0 ≤ ab x := by unfold ab; split <;> grind
theorem ab_neg (x : Rat) : ab (-x) = ab x := by unfold ab; split <;> split <;> grind
theorem le_ab (x : Rat) : x ≤ ab x := by unfold ab; split <;> grind
theorem neg_le_ab (x : Rat) : -x ≤ ab x := by unfold ab; split <;> grind
theorem ab_add (x y : Rat) : ab (x + y) ≤ ab x + ab y := by
  have := le_ab x; have := le_ab y; have := neg_le_ab x; have := neg_le_ab y
  rw [ab_le]; grind
theorem ab_mul (x y : Rat) : ab (x * y) = ab x * ab y := by
  unfold ab
  by_cases hx : 0 ≤ x <;> by_cases hy : 0 ≤ y
  · rw [if_pos hx, if_pos hy, if_pos (Rat.mul_nonneg hx hy)]
  · rw [if_pos hx, if_neg hy]
    have : 0 ≤ x * -y := Rat.mul_nonneg hx (by grind)
    split <;> grind
  · rw [if_neg hx, if_pos hy]
    have : 0 ≤ -x * y := Rat.mul_nonneg (by grind) hy
    split <;> grind
  · rw [if_neg hx, if_neg hy]
    have : 0 ≤ -x * -y := Rat.mul_nonneg (by grind) (by grind)
    rw [if_pos (by grind)]; grind
theorem mul_le_mul' {a b c d : Rat} (h : a ≤ b) (h' : c ≤ d) (ha : 0 ≤ c) (hb : 0 ≤ b) : a * c ≤ b * d := by
  have h1 : 0 ≤ (b - a) * c := Rat.mul_nonneg (by grind) ha
  have h2 : 0 ≤ b * (d - c) := Rat.mul_nonneg hb (by grind)
  grind

structure Re where
  s : Nat → Rat
  cau : ∀ e : Rat, 0 < e → ∃ N, ∀ m n, N ≤ m → N ≤ n → ab (s m - s n) ≤ e

theorem Re.ext {x y : Re} (h : ∀ n, x.s n = y.s n) : x = y := by
  cases x; cases y
  simp only [Re.mk.injEq]
  exact funext h

theorem half_pos {e : Rat} (h : 0 < e) : 0 < e / 2 := by grind

theorem Re.bound (x : Re) : ∃ B : Rat, 0 < B ∧ ∃ N, ∀ n, N ≤ n → ab (x.s n) ≤ B := by
  obtain ⟨N, hN⟩ := x.cau 1 (by decide)
  refine ⟨ab (x.s N) + 1, by have := ab_nonneg (x.s N); grind, N, fun n hn => ?_⟩
  have h1 := hN n N hn (Nat.le_refl _)
  have h2 := ab_add (x.s n - x.s N) (x.s N)
  have : x.s n - x.s N + x.s N = x.s n := by grind
  rw [this] at h2
  grind

def Re.of (q : Rat) : Re := ⟨fun _ => q, fun e he => ⟨0, fun m n _ _ => by show ab (q - q) ≤ e; rw [ab_le]; grind⟩⟩
def Re.add (x y : Re) : Re := ⟨fun n => x.s n + y.s n, fun e he => by
  obtain ⟨N, h⟩ := x.cau _ (half_pos he)
  obtain ⟨M, k⟩ := y.cau _ (half_pos he)
  refine ⟨max N M, fun m n hm hn => ?_⟩
  have h1 := h m n (by omega) (by omega)
  have h2 := k m n (by omega) (by omega)
  rw [ab_le] at *
  grind⟩
def Re.neg (x : Re) : Re := ⟨fun n => -x.s n, fun e he => by
  obtain ⟨N, h⟩ := x.cau e he
  refine ⟨N, fun m n hm hn => ?_⟩
  have h1 := h m n hm hn
  rw [ab_le] at *
  grind⟩
theorem div_pos {a b : Rat} (h : 0 < a) (h' : 0 < b) : 0 < a / b := by
  rw [Rat.div_def]; exact Rat.mul_pos h (Rat.inv_pos.2 h')
theorem small {B e : Rat} (hB : 0 < B) (he : 0 < e) : ∃ d : Rat, 0 < d ∧ d * B ≤ e :=
  ⟨e / B, div_pos he hB, by rw [Rat.div_mul_cancel (by grind)]; exact Std.le_refl _⟩
def Re.mul (x y : Re) : Re := ⟨fun n => x.s n * y.s n, fun e he => by
  obtain ⟨B, hB, N1, hx⟩ := x.bound
  obtain ⟨C, hC, N2, hy⟩ := y.bound
  obtain ⟨d, hd, hde⟩ := small (B := B + C) (by grind) he
  obtain ⟨N3, h⟩ := x.cau _ hd
  obtain ⟨N4, k⟩ := y.cau _ hd
  refine ⟨max (max N1 N2) (max N3 N4), fun m n hm hn => ?_⟩
  have h1 := h m n (by omega) (by omega)
  have h2 := k m n (by omega) (by omega)
  have h3 := hx n (by omega)
  have h4 := hy m (by omega)
  have e1 : x.s m * y.s m - x.s n * y.s n = (x.s m - x.s n) * y.s m + x.s n * (y.s m - y.s n) := by grind
  have h7 := ab_add ((x.s m - x.s n) * y.s m) (x.s n * (y.s m - y.s n))
  show ab (x.s m * y.s m - x.s n * y.s n) ≤ e
  rw [e1]
  rw [ab_mul, ab_mul] at h7
  have h5 := mul_le_mul' h1 h4 (ab_nonneg _) (Std.le_of_lt hd)
  have h6 := mul_le_mul' h3 h2 (ab_nonneg _) (Std.le_of_lt hB)
  grind⟩
instance : Add Re := ⟨Re.add⟩
instance : Neg Re := ⟨Re.neg⟩
instance : Mul Re := ⟨Re.mul⟩
instance : Sub Re := ⟨fun x y => x + -y⟩
theorem Re.add_s (x y : Re) (n : Nat) : (x + y).s n = x.s n + y.s n := rfl
theorem Re.neg_s (x : Re) (n : Nat) : (-x).s n = -x.s n := rfl
theorem Re.mul_s (x y : Re) (n : Nat) : (x * y).s n = x.s n * y.s n := rfl
theorem Re.sub_s (x y : Re) (n : Nat) : (x - y).s n = x.s n - y.s n := by show x.s n + -y.s n = _; grind
theorem Re.of_s (q : Rat) (n : Nat) : (Re.of q).s n = q := rfl

def pos (x : Re) : Prop := ∃ e : Rat, 0 < e ∧ ∃ N, ∀ n, N ≤ n → e ≤ x.s n
def null (x : Re) : Prop := ∀ e : Rat, 0 < e → ∃ N, ∀ n, N ≤ n → ab (x.s n) ≤ e

theorem tri (x : Re) : pos x ∨ pos (-x) ∨ null x := by
  by_cases h : null x
  · exact .inr (.inr h)
  · unfold null at h
    obtain ⟨e, h⟩ := Classical.not_forall.1 h
    obtain ⟨he, h⟩ := Classical.not_imp.1 h
    have h := not_exists.1 h
    obtain ⟨N, hN⟩ := x.cau _ (half_pos he)
    obtain ⟨n, hn⟩ := Classical.not_forall.1 (h N)
    obtain ⟨hn, hx⟩ := Classical.not_imp.1 hn
    by_cases hs : 0 ≤ x.s n
    · refine .inl ⟨e / 2, half_pos he, N, fun m hm => ?_⟩
      have := hN n m hn hm
      rw [ab_le] at this
      have hx' : ab (x.s n) = x.s n := if_pos hs
      grind
    · refine .inr (.inl ⟨e / 2, half_pos he, N, fun m hm => ?_⟩)
      have := hN n m hn hm
      rw [ab_le] at this
      have hx' : ab (x.s n) = -x.s n := if_neg hs
      show e / 2 ≤ -x.s m
      grind
theorem pos_not_neg {x : Re} (h : pos x) (h' : pos (-x)) : False := by
  obtain ⟨e, he, N, h⟩ := h
  obtain ⟨f, hf, M, k⟩ := h'
  have h1 := h (max N M) (by omega)
  have h2 := k (max N M) (by omega)
  rw [Re.neg_s] at h2
  grind
theorem pos_not_null {x : Re} (h : pos x) (h' : null x) : False := by
  obtain ⟨e, he, N, h⟩ := h
  obtain ⟨M, k⟩ := h' _ (half_pos he)
  have h1 := h (max N M) (by omega)
  have h2 := k (max N M) (by omega)
  rw [ab_le] at h2
  grind
theorem null_neg {x : Re} (h : null x) : null (-x) := fun e he => by
  obtain ⟨N, h⟩ := h e he
  exact ⟨N, fun n hn => by rw [Re.neg_s, ab_neg]; exact h n hn⟩
theorem Re.neg_neg (x : Re) : - -x = x := Re.ext fun n => by simp only [Re.neg_s]; grind
theorem null_add {x y : Re} (h : null x) (h' : null y) : null (x + y) := fun e he => by
  obtain ⟨N, h⟩ := h _ (half_pos he)
  obtain ⟨M, k⟩ := h' _ (half_pos he)
  refine ⟨max N M, fun n hn => ?_⟩
  have h1 := h n (by omega)
  have h2 := k n (by omega)
  rw [Re.add_s]
  rw [ab_le] at *
  grind
theorem null_sub {x y : Re} (h : null x) (h' : null y) : null (x - y) := null_add h (null_neg h')
theorem null_mul {x : Re} (h : null x) (y : Re) : null (x * y) := fun e he => by
  obtain ⟨B, hB, N1, hy⟩ := y.bound
  obtain ⟨d, hd, hde⟩ := small hB he
  obtain ⟨N, h⟩ := h _ hd
  refine ⟨max N N1, fun n hn => ?_⟩
  rw [Re.mul_s, ab_mul]
  have := mul_le_mul' (h n (by omega)) (hy n (by omega)) (ab_nonneg _) (Std.le_of_lt hd)
  grind
theorem Re.mul_comm (x y : Re) : x * y = y * x := Re.ext fun n => by simp only [Re.mul_s]; grind
theorem null_mul' (x : Re) {y : Re} (h : null y) : null (x * y) := by rw [Re.mul_comm]; exact null_mul h x
theorem pos_add {x y : Re} (h : pos x) (h' : pos y) : pos (x + y) := by
  obtain ⟨e, he, N, h⟩ := h
  obtain ⟨f, hf, M, k⟩ := h'
  refine ⟨e, he, max N M, fun n hn => ?_⟩
  have h1 := h n (by omega)
  have h2 := k n (by omega)
  rw [Re.add_s]; grind
theorem pos_null {x y : Re} (h : pos x) (h' : null y) : pos (x + y) := by
  obtain ⟨e, he, N, h⟩ := h
  obtain ⟨M, k⟩ := h' _ (half_pos he)
  refine ⟨e / 2, half_pos he, max N M, fun n hn => ?_⟩
  have h1 := h n (by omega)
  have h2 := k n (by omega)
  rw [ab_le] at h2
  rw [Re.add_s]; grind
theorem pos_mul {x y : Re} (h : pos x) (h' : pos y) : pos (x * y) := by
  obtain ⟨e, he, N, h⟩ := h
  obtain ⟨f, hf, M, k⟩ := h'
  refine ⟨e * f, Rat.mul_pos he hf, max N M, fun n hn => ?_⟩
  have h1 := h n (by omega)
  have h2 := k n (by omega)
  rw [Re.mul_s]
  exact mul_le_mul' h1 h2 (Std.le_of_lt hf) (by grind)

open Classical in
noncomputable def sgn (x : Re) : Int := if pos x then 1 else if pos (-x) then -1 else 0
theorem sgn_pos {x : Re} (h : pos x) : sgn x = 1 := if_pos h
theorem sgn_npos {x : Re} (h : pos (-x)) : sgn x = -1 := by
  unfold sgn; rw [if_neg fun k => pos_not_neg k h, if_pos h]
theorem sgn_null {x : Re} (h : null x) : sgn x = 0 := by
  unfold sgn; rw [if_neg fun k => pos_not_null k h, if_neg fun k => pos_not_null k (null_neg h)]
theorem sgn_cases (x : Re) : (pos x ∧ sgn x = 1) ∨ (pos (-x) ∧ sgn x = -1) ∨ (null x ∧ sgn x = 0) := by
  rcases tri x with h | h | h
  · exact .inl ⟨h, sgn_pos h⟩
  · exact .inr (.inl ⟨h, sgn_npos h⟩)
  · exact .inr (.inr ⟨h, sgn_null h⟩)
theorem sgn_one {x : Re} : sgn x = 1 ↔ pos x := ⟨fun h => by rcases sgn_cases x with ⟨a, b⟩ | ⟨a, b⟩ | ⟨a, b⟩ <;> first | exact a | omega, sgn_pos⟩
theorem sgn_mone {x : Re} : sgn x = -1 ↔ pos (-x) := ⟨fun h => by rcases sgn_cases x with ⟨a, b⟩ | ⟨a, b⟩ | ⟨a, b⟩ <;> first | exact a | omega, sgn_npos⟩
theorem sgn_zero {x : Re} : sgn x = 0 ↔ null x := ⟨fun h => by rcases sgn_cases x with ⟨a, b⟩ | ⟨a, b⟩ | ⟨a, b⟩ <;> first | exact a | omega, sgn_null⟩
theorem sgn_neg (x : Re) : sgn (-x) = -sgn x := by
  rcases sgn_cases x with ⟨a, b⟩ | ⟨a, b⟩ | ⟨a, b⟩
  · rw [b, sgn_npos (by rwa [Re.neg_neg])]
  · rw [b, sgn_pos a]; rfl
  · rw [b, sgn_null (null_neg a)]; rfl
theorem Re.neg_mul (x y : Re) : -x * y = -(x * y) := Re.ext fun n => by simp only [Re.mul_s, Re.neg_s]; grind
theorem Re.mul_neg (x y : Re) : x * -y = -(x * y) := Re.ext fun n => by simp only [Re.mul_s, Re.neg_s]; grind
theorem sgn_mul (x y : Re) : sgn (x * y) = sgn x * sgn y := by
  rcases sgn_cases x with ⟨a, b⟩ | ⟨a, b⟩ | ⟨a, b⟩ <;> rcases sgn_cases y with ⟨c, d⟩ | ⟨c, d⟩ | ⟨c, d⟩ <;> rw [b, d]
  · exact sgn_pos (pos_mul a c)
  · have := sgn_neg (x * -y); rw [sgn_pos (pos_mul a c), Re.mul_neg, Re.neg_neg] at this; omega
  · exact sgn_null (null_mul' x c)
  · have := sgn_neg (-x * y); rw [sgn_pos (pos_mul a c), Re.neg_mul, Re.neg_neg] at this; omega
  · have := sgn_pos (pos_mul a c); rw [Re.neg_mul, Re.mul_neg, Re.neg_neg] at this; exact this
  · exact sgn_null (null_mul' x c)
  · exact sgn_null (null_mul a y)
  · exact sgn_null (null_mul a y)
  · exact sgn_null (null_mul a y)
theorem Re.add_comm (x y : Re) : x + y = y + x := Re.ext fun n => by simp only [Re.add_s]; grind
theorem sgn_add_null (x : Re) {y : Re} (h : null y) : sgn (x + y) = sgn x := by
  rcases sgn_cases x with ⟨a, b⟩ | ⟨a, b⟩ | ⟨a, b⟩ <;> rw [b]
  · exact sgn_pos (pos_null a h)
  · refine sgn_npos ?_
    have : -(x + y) = -x + -y := Re.ext fun n => by simp only [Re.add_s, Re.neg_s]; grind
    rw [this]; exact pos_null a (null_neg h)
  · exact sgn_null (null_add a h)
def eqv (x y : Re) : Prop := null (x - y)
theorem eqv_refl (x : Re) : eqv x x := fun e he => ⟨0, fun n _ => by rw [Re.sub_s, ab_le]; grind⟩
theorem eqv_of_eq {x y : Re} (h : x = y) : eqv x y := h ▸ eqv_refl x
theorem sgn_eqv {x y : Re} (h : eqv x y) : sgn x = sgn y := by
  have : x = y + (x - y) := Re.ext fun n => by simp only [Re.sub_s, Re.add_s]; grind
  rw [this]; exact sgn_add_null y h
theorem eqv_add {x y z w : Re} (h : eqv x y) (h' : eqv z w) : eqv (x + z) (y + w) := by
  have : x + z - (y + w) = (x - y) + (z - w) := Re.ext fun n => by simp only [Re.sub_s, Re.add_s]; grind
  unfold eqv; rw [this]; exact null_add h h'
theorem eqv_neg {x y : Re} (h : eqv x y) : eqv (-x) (-y) := by
  have : -x - -y = -(x - y) := Re.ext fun n => by simp only [Re.sub_s, Re.neg_s]; grind
  unfold eqv; rw [this]; exact null_neg h
theorem eqv_sub {x y z w : Re} (h : eqv x y) (h' : eqv z w) : eqv (x - z) (y - w) := eqv_add h (eqv_neg h')
theorem eqv_mul {x y z w : Re} (h : eqv x y) (h' : eqv z w) : eqv (x * z) (y * w) := by
  have : x * z - y * w = (x - y) * z + y * (z - w) := Re.ext fun n => by simp only [Re.sub_s, Re.add_s, Re.mul_s]; grind
  unfold eqv; rw [this]; exact null_add (null_mul h z) (null_mul' y h')

-- order
def le (x y : Re) : Prop := sgn (x - y) ≤ 0
theorem sgn_le_one (x : Re) : sgn x ≤ 1 := by rcases sgn_cases x with ⟨a, b⟩ | ⟨a, b⟩ | ⟨a, b⟩ <;> omega
theorem nonneg_add {x y : Re} (h : 0 ≤ sgn x) (h' : 0 ≤ sgn y) : 0 ≤ sgn (x + y) ∧ (0 < sgn x ∨ 0 < sgn y → sgn (x + y) = 1) ∧ (sgn x = 0 → sgn y = 0 → sgn (x + y) = 0) := by
  rcases sgn_cases x with ⟨a, b⟩ | ⟨a, b⟩ | ⟨a, b⟩ <;> rcases sgn_cases y with ⟨c, d⟩ | ⟨c, d⟩ | ⟨c, d⟩ <;> try omega
  · have := sgn_pos (pos_add a c); omega
  · have := sgn_pos (pos_null a c); omega
  · have := sgn_pos (pos_null c a); rw [Re.add_comm] at this; omega
  · have := sgn_null (null_add a c); omega
def sgnQ (q : Rat) : Int := if q < 0 then -1 else if 0 < q then 1 else 0
theorem sgn_of (q : Rat) : sgn (Re.of q) = sgnQ q := by
  unfold sgnQ
  split
  · rename_i h
    refine sgn_npos ⟨-q, by grind, 0, fun n _ => ?_⟩
    rw [Re.neg_s, Re.of_s]; grind
  · split
    · rename_i h
      refine sgn_pos ⟨q, h, 0, fun n _ => ?_⟩
      rw [Re.of_s]; grind
    · have : q = 0 := by grind
      subst this
      refine sgn_null fun e he => ⟨0, fun n _ => ?_⟩
      rw [Re.of_s, ab_le]; grind
theorem Re.of_add (p q : Rat) : Re.of (p + q) = Re.of p + Re.of q := rfl
theorem Re.of_mul (p q : Rat) : Re.of (p * q) = Re.of p * Re.of q := rfl
theorem Re.of_neg (p : Rat) : Re.of (-p) = -Re.of p := rfl
theorem Re.of_sub (p q : Rat) : Re.of (p - q) = Re.of p - Re.of q := Re.ext fun n => by simp only [Re.of_s, Re.sub_s]

-- square roots
theorem den_mul (q : Rat) : q * q.den = q.num := by
  have h : q = (q.num : Rat) / (q.den : Rat) := by
    have h1 := Rat.mkRat_self q
    rw [Rat.mkRat_eq_div] at h1
    exact h1.symm
  have hd : (q.den : Rat) ≠ 0 := by
    have : (0 : Rat) < q.den := by exact_mod_cast q.den_pos
    grind
  have h2 : (q.num : Rat) / (q.den : Rat) * q.den = q.num := Rat.div_mul_cancel hd
  rwa [← h] at h2
theorem arch (q : Rat) : ∃ N : Nat, q ≤ N := by
  refine ⟨q.num.natAbs, ?_⟩
  have h1 : q * q.den = q.num := den_mul q
  have h2 : (1 : Rat) ≤ q.den := by exact_mod_cast q.den_pos
  have h3 : (q.num : Rat) ≤ (q.num.natAbs : Rat) := by
    have h4 : q.num ≤ (q.num.natAbs : Int) := by omega
    have : ((q.num : Int) : Rat) ≤ ((q.num.natAbs : Int) : Rat) := by exact_mod_cast h4
    rwa [Rat.intCast_natCast] at this
  by_cases h : 0 ≤ q
  · have h5 : 0 ≤ q * (q.den - 1) := Rat.mul_nonneg h (by grind)
    grind
  · have : (0 : Rat) ≤ (q.num.natAbs : Rat) := by exact_mod_cast Nat.zero_le _
    grind
def un (n : Nat) : Rat := 1 / ((n : Rat) + 1)
theorem nn (n : Nat) : (0 : Rat) ≤ n := by exact_mod_cast Nat.zero_le n
theorem un_pos (n : Nat) : 0 < un n := div_pos (by decide) (by have := nn n; grind)
theorem un_mul (n : Nat) : un n * ((n : Rat) + 1) = 1 := Rat.div_mul_cancel (by have := nn n; grind)
theorem un_small {e : Rat} (he : 0 < e) : ∃ N, ∀ n, N ≤ n → un n ≤ e := by
  obtain ⟨N, hN⟩ := arch (1 / e)
  refine ⟨N, fun n hn => ?_⟩
  have h1 : (1 / e) * e = 1 := Rat.div_mul_cancel (by grind)
  have h2 : (N : Rat) ≤ n := by exact_mod_cast hn
  have h3 := un_mul n
  have h4 := un_pos n
  generalize un n = u at *
  generalize 1 / e = q at *
  have h5 : 0 ≤ u * e * ((n : Rat) - q) := Rat.mul_nonneg (Rat.mul_nonneg (by grind) (by grind)) (by grind)
  have h6 : 0 ≤ u * e := Rat.mul_nonneg (by grind) (by grind)
  have e1 : u * e * ((n : Rat) - q) = (u * n) * e - u * (q * e) := by grind
  have e2 : u * n = 1 - u := by grind
  rw [e1, h1, e2] at h5
  grind
def rn (k n : Nat) : Rat := (Nat.sqrt (k * ((n + 1) * (n + 1))) : Rat) * un n
theorem rn_nonneg (k n : Nat) : 0 ≤ rn k n := Rat.mul_nonneg (nn _) (Std.le_of_lt (un_pos n))
theorem rn_le (k n : Nat) : rn k n * rn k n ≤ k := by
  have h := Nat.sqrt_le (k * ((n + 1) * (n + 1)))
  have h' : ((Nat.sqrt (k * ((n + 1) * (n + 1))) : Nat) : Rat) * ((Nat.sqrt (k * ((n + 1) * (n + 1))) : Nat) : Rat) ≤ (k : Rat) * (((n : Rat) + 1) * ((n : Rat) + 1)) := by exact_mod_cast h
  have h3 := un_mul n
  have h4 := un_pos n
  unfold rn
  generalize ((Nat.sqrt (k * ((n + 1) * (n + 1))) : Nat) : Rat) = r at *
  generalize un n = u at *
  have h5 : 0 ≤ ((k : Rat) * (((n : Rat) + 1) * ((n : Rat) + 1)) - r * r) * (u * u) := Rat.mul_nonneg (by grind) (Rat.mul_nonneg (by grind) (by grind))
  have e1 : ((k : Rat) * (((n : Rat) + 1) * ((n : Rat) + 1)) - r * r) * (u * u) = (k : Rat) * (u * ((n : Rat) + 1)) * (u * ((n : Rat) + 1)) - (r * u) * (r * u) := by grind
  rw [e1, h3] at h5
  grind
theorem lt_rn (k n : Nat) : (k : Rat) ≤ (rn k n + un n) * (rn k n + un n) := by
  have h := Nat.lt_succ_sqrt (k * ((n + 1) * (n + 1)))
  have h' : (k : Rat) * (((n : Rat) + 1) * ((n : Rat) + 1)) ≤ (((Nat.sqrt (k * ((n + 1) * (n + 1))) : Nat) : Rat) + 1) * (((Nat.sqrt (k * ((n + 1) * (n + 1))) : Nat) : Rat) + 1) := by
    have := Nat.le_of_lt h
    simp only [Nat.succ_eq_add_one] at this
    exact_mod_cast this
  have h3 := un_mul n
  have h4 := un_pos n
  unfold rn
  generalize ((Nat.sqrt (k * ((n + 1) * (n + 1))) : Nat) : Rat) = r at *
  generalize un n = u at *
  have h5 : 0 ≤ ((r + 1) * (r + 1) - (k : Rat) * (((n : Rat) + 1) * ((n : Rat) + 1))) * (u * u) := Rat.mul_nonneg (by grind) (Rat.mul_nonneg (by grind) (by grind))
  have e1 : ((r + 1) * (r + 1) - (k : Rat) * (((n : Rat) + 1) * ((n : Rat) + 1))) * (u * u) = (r * u + u) * (r * u + u) - (k : Rat) * (u * ((n : Rat) + 1)) * (u * ((n : Rat) + 1)) := by grind
  rw [e1, h3] at h5
  grind
theorem sq_le {x y : Rat} (hy : 0 ≤ y) (h : x * x ≤ y * y) : x ≤ y := by
  by_cases hx : x ≤ y
  · exact hx
  · have : 0 < (x - y) * (x + y) := Rat.mul_pos (by grind) (by grind)
    grind
theorem rn_near (k m n : Nat) : rn k m ≤ rn k n + un n :=
  sq_le (by have := rn_nonneg k n; have := un_pos n; grind) (Std.le_trans (rn_le k m) (lt_rn k n))
def rtN (k : Nat) : Re := ⟨rn k, fun e he => by
  obtain ⟨N, h⟩ := un_small he
  refine ⟨N, fun m n hm hn => ?_⟩
  have h1 := rn_near k m n
  have h2 := rn_near k n m
  have h3 := h m hm
  have h4 := h n hn
  rw [ab_le]; grind⟩
theorem rtN_s (k n : Nat) : (rtN k).s n = rn k n := rfl
theorem rtN_sq (k : Nat) : eqv (rtN k * rtN k) (Re.of k) := fun e he => by
  obtain ⟨d, hd, hde⟩ := small (B := 2 * (k : Rat) + 3) (by have := nn k; grind) he
  obtain ⟨N, h⟩ := un_small hd
  obtain ⟨M, h'⟩ := un_small (e := 1) (by decide)
  refine ⟨max N M, fun n hn => ?_⟩
  have h1 := rn_le k n
  have h2 := lt_rn k n
  have h3 := h n (by omega)
  have h3' := h' n (by omega)
  have h4 := un_pos n
  have h5 := rn_nonneg k n
  have hk := nn k
  rw [Re.sub_s, Re.mul_s, Re.of_s, rtN_s, ab_le]
  generalize rn k n = r at *
  generalize un n = u at *
  have h6 : r ≤ k + 1 := sq_le (by grind) (by
    have : 0 ≤ (k : Rat) * k := Rat.mul_nonneg hk hk
    grind)
  have h7 : 0 ≤ u * ((k : Rat) + 1 - r) := Rat.mul_nonneg (by grind) (by grind)
  have h8 : 0 ≤ u * (1 - u) := Rat.mul_nonneg (by grind) (by grind)
  have h9 : 0 ≤ (d - u) * (2 * (k : Rat) + 3) := Rat.mul_nonneg (by grind) (by grind)
  constructor <;> grind
theorem nonneg_of {x : Re} (h : ∀ n, 0 ≤ x.s n) : 0 ≤ sgn x := by
  rcases sgn_cases x with ⟨a, b⟩ | ⟨a, b⟩ | ⟨a, b⟩ <;> try omega
  obtain ⟨e, he, N, h'⟩ := a
  have h1 := h' N (Nat.le_refl _)
  have h2 := h N
  rw [Re.neg_s] at h1
  grind
def rt (q : Rat) : Re := rtN (q.num.toNat * q.den) * Re.of (1 / q.den)
theorem rt_nonneg (q : Rat) : 0 ≤ sgn (rt q) := nonneg_of fun n => by
  show 0 ≤ rn _ n * (1 / (q.den : Rat))
  have hd : (0 : Rat) < q.den := by exact_mod_cast q.den_pos
  exact Rat.mul_nonneg (rn_nonneg _ _) (Std.le_of_lt (div_pos (by decide) hd))
theorem rt_sq {q : Rat} (h : 0 ≤ q) : eqv (rt q * rt q) (Re.of q) := by
  have hd : (0 : Rat) < q.den := by exact_mod_cast q.den_pos
  have h1 : rt q * rt q = (rtN (q.num.toNat * q.den) * rtN (q.num.toNat * q.den)) * (Re.of (1 / q.den) * Re.of (1 / q.den)) := Re.ext fun n => by simp only [rt, Re.mul_s]; grind
  have h2 : Re.of q = Re.of ((q.num.toNat * q.den : Nat) : Rat) * (Re.of (1 / q.den) * Re.of (1 / q.den)) := by
    rw [← Re.of_mul, ← Re.of_mul]
    congr 1
    have h3 : q * q.den = q.num := den_mul q
    have h4 : ((q.num.toNat * q.den : Nat) : Rat) = (q.num : Rat) * (q.den : Rat) := by
      have : 0 ≤ q.num := Rat.num_nonneg.2 h
      have h5 : ((q.num.toNat * q.den : Nat) : Int) = q.num * (q.den : Int) := by
        rw [Int.natCast_mul, Int.toNat_of_nonneg this]
      have : (((q.num.toNat * q.den : Nat) : Int) : Rat) = ((q.num * (q.den : Int) : Int) : Rat) := by rw [h5]
      rw [Rat.intCast_natCast, Rat.intCast_mul, Rat.intCast_natCast] at this
      exact this
    rw [h4, ← h3]
    have h6 : (1 / (q.den : Rat)) * q.den = 1 := Rat.div_mul_cancel (by grind)
    generalize 1 / (q.den : Rat) = i at *
    have : q * (q.den : Rat) * (q.den : Rat) * (i * i) = q * (i * (q.den : Rat)) * (i * (q.den : Rat)) := by grind
    rw [this, h6]; grind
  rw [h1, h2]
  exact eqv_mul (rtN_sq _) (eqv_refl _)
theorem sgn_rt {q : Rat} (h : 0 ≤ q) : sgn (rt q) = sgnQ q := by
  have h1 := sgn_eqv (rt_sq h)
  rw [sgn_mul, sgn_of] at h1
  have h2 := rt_nonneg q
  rcases sgn_cases (rt q) with ⟨a, b⟩ | ⟨a, b⟩ | ⟨a, b⟩
  · rw [b] at h1 ⊢; omega
  · omega
  · rw [b] at h1 ⊢; omega
theorem sgn_opp {x y : Re} (h : sgn x = -sgn y) (h0 : sgn x ≠ 0) : sgn (x + y) = sgn x * sgn (x * x - y * y) := by
  have h2 : x * x - y * y = (x + y) * (x + -y) := Re.ext fun n => by simp only [Re.sub_s, Re.add_s, Re.mul_s, Re.neg_s]; grind
  have h3 : sgn (x + -y) = sgn x := by
    rcases sgn_cases x with ⟨a, b⟩ | ⟨a, b⟩ | ⟨a, b⟩
    · have : pos (-y) := sgn_one.1 (by rw [sgn_neg]; omega)
      rw [b]; exact sgn_pos (pos_add a this)
    · have : pos (- -y) := sgn_mone.1 (by rw [sgn_neg]; omega)
      rw [b]
      refine sgn_npos ?_
      have e : -(x + -y) = -x + - -y := Re.ext fun n => by simp only [Re.add_s, Re.neg_s]; grind
      rw [e]; exact pos_add a this
    · omega
  rw [h2, sgn_mul, h3]
  rcases sgn_cases x with ⟨a, b⟩ | ⟨a, b⟩ | ⟨a, b⟩ <;> rw [b] <;> first | omega
theorem sgn_same {x y : Re} (h : sgn x = sgn y) : sgn (x + y) = sgn x := by
  rcases sgn_cases x with ⟨a, b⟩ | ⟨a, b⟩ | ⟨a, b⟩
  · rw [b]; exact sgn_pos (pos_add a (sgn_one.1 (by omega)))
  · rw [b]
    refine sgn_npos ?_
    have e : -(x + y) = -x + -y := Re.ext fun n => by simp only [Re.add_s, Re.neg_s]; grind
    rw [e]; exact pos_add a (sgn_mone.1 (by omega))
  · rw [b]; exact sgn_null (null_add a (sgn_zero.1 (by omega)))

def cmpQ (p q : Rat) : Int := sgnQ (p - q)
def two (a b m : Rat) : Int :=
  let x := sgnQ a
  let y := sgnQ b * sgnQ m
  if x = 0 then y else if y = 0 ∨ x = y then x else x * cmpQ (a * a) (b * b * m)
theorem sgn_two {X Z : Re} {n : Int} (hn : sgn (X * X - Z * Z) = n) : sgn (X + Z) = if sgn X = 0 then sgn Z else if sgn Z = 0 ∨ sgn X = sgn Z then sgn X else sgn X * n := by
  split
  · rename_i h
    rw [Re.add_comm]; exact sgn_add_null _ (sgn_zero.1 h)
  · rename_i h
    split
    · rename_i h'
      rcases h' with h' | h'
      · exact sgn_add_null _ (sgn_zero.1 h')
      · exact sgn_same h'
    · rename_i h'
      have : sgn X = -sgn Z := by
        rcases sgn_cases X with ⟨a, b⟩ | ⟨a, b⟩ | ⟨a, b⟩ <;> rcases sgn_cases Z with ⟨c, d⟩ | ⟨c, d⟩ | ⟨c, d⟩ <;> omega
      rw [sgn_opp this h, hn]
def v2 (a b m : Rat) : Re := Re.of a + Re.of b * rt m
theorem two_eq {a b m : Rat} (h : 0 ≤ m) : two a b m = sgn (v2 a b m) := by
  have hz : sgn (Re.of b * rt m) = sgnQ b * sgnQ m := by rw [sgn_mul, sgn_of, sgn_rt h]
  have hn : sgn (Re.of a * Re.of a - (Re.of b * rt m) * (Re.of b * rt m)) = cmpQ (a * a) (b * b * m) := by
    have e : (Re.of b * rt m) * (Re.of b * rt m) = (Re.of b * Re.of b) * (rt m * rt m) := Re.ext fun n => by simp only [Re.mul_s]; grind
    have h1 : eqv (Re.of a * Re.of a - (Re.of b * rt m) * (Re.of b * rt m)) (Re.of (a * a - b * b * m)) := by
      rw [e, Re.of_sub, Re.of_mul, Re.of_mul, Re.of_mul]
      exact eqv_sub (eqv_refl _) (eqv_mul (eqv_refl _) (rt_sq h))
    rw [sgn_eqv h1, sgn_of]; rfl
  unfold v2
  rw [sgn_two hn, hz, sgn_of]
  rfl
end Go.RL

set_option linter.unusedSimpArgs false
namespace Go.RL

def v4 (A B C D M N : Rat) : Re := v2 A B M + v2 C D M * rt N
def quad (A B C D M N : Rat) : Int :=
  if M < 0 ∨ N < 0 then 0 else
  let x := two A B M
  let y := two C D M * sgnQ N
  if x = 0 then y else if y = 0 ∨ x = y then x else
    x * two (A * A + B * B * M - N * (C * C + D * D * M)) ((A * B - N * (C * D)) + (A * B - N * (C * D))) M
theorem quad_eq {A B C D M N : Rat} (hM : 0 ≤ M) (hN : 0 ≤ N) : quad A B C D M N = sgn (v4 A B C D M N) := by
  have hz : sgn (v2 C D M * rt N) = two C D M * sgnQ N := by rw [sgn_mul, two_eq hM, sgn_rt hN]
  have hn : sgn (v2 A B M * v2 A B M - (v2 C D M * rt N) * (v2 C D M * rt N)) = two (A * A + B * B * M - N * (C * C + D * D * M)) ((A * B - N * (C * D)) + (A * B - N * (C * D))) M := by
    rw [two_eq hM]
    refine sgn_eqv ?_
    have e : v2 A B M * v2 A B M - (v2 C D M * rt N) * (v2 C D M * rt N) - v2 (A * A + B * B * M - N * (C * C + D * D * M)) ((A * B - N * (C * D)) + (A * B - N * (C * D))) M =
        Re.of (B * B - N * (D * D)) * (rt M * rt M - Re.of M) - (v2 C D M * v2 C D M) * (rt N * rt N - Re.of N) := Re.ext fun n => by simp only [v2, Re.sub_s, Re.add_s, Re.mul_s, Re.of_s]; grind
    unfold eqv
    rw [e]
    exact null_sub (null_mul' _ (rt_sq hM)) (null_mul' _ (rt_sq hN))
  unfold quad v4
  rw [if_neg (by grind), sgn_two hn, hz, ← two_eq hM]

-- order
theorem nn_mul {x y : Re} (h : 0 ≤ sgn x) (h' : 0 ≤ sgn y) : 0 ≤ sgn (x * y) := by rw [sgn_mul]; exact Int.mul_nonneg h h'
theorem nn_add {x y : Re} (h : 0 ≤ sgn x) (h' : 0 ≤ sgn y) : 0 ≤ sgn (x + y) := (nonneg_add h h').1
theorem nn_of {q : Rat} : 0 ≤ sgn (Re.of q) ↔ 0 ≤ q := by
  rw [sgn_of]; unfold sgnQ; split <;> (try split) <;> grind
theorem nn_eq {x y : Re} (e : ∀ n, x.s n = y.s n) (h : 0 ≤ sgn x) : 0 ≤ sgn y := by rw [← Re.ext e]; exact h
theorem nn_neg {x : Re} (h : ¬ 0 ≤ sgn x) : 0 ≤ sgn (-x) := by rw [sgn_neg]; omega

def inI (lo hi : Int) (x : Re) : Prop := 0 ≤ sgn (Re.of 65536 * x - Re.of lo) ∧ 0 ≤ sgn (Re.of hi - Re.of 65536 * x)
theorem inI_of {q : Rat} {lo hi : Int} (h1 : (lo : Rat) ≤ q * 65536) (h2 : q * 65536 ≤ hi) : inI lo hi (Re.of q) := by
  unfold inI
  rw [← Re.of_mul, ← Re.of_sub, ← Re.of_sub, nn_of, nn_of]
  grind
theorem inI_add {a b c d : Int} {x y : Re} (h : inI a b x) (h' : inI c d y) : inI (a + c) (b + d) (x + y) := by
  refine ⟨nn_eq (fun n => ?_) (nn_add h.1 h'.1), nn_eq (fun n => ?_) (nn_add h.2 h'.2)⟩ <;> simp only [Re.sub_s, Re.add_s, Re.mul_s, Re.of_s, Rat.intCast_add] <;> grind
theorem inI_neg {a b : Int} {x : Re} (h : inI a b x) : inI (-b) (-a) (-x) := by
  refine ⟨nn_eq (fun n => ?_) h.2, nn_eq (fun n => ?_) h.1⟩ <;> simp only [Re.sub_s, Re.neg_s, Re.mul_s, Re.of_s, Rat.intCast_neg] <;> grind
theorem mul_lo {X Y : Re} {a b c d m : Rat} (h1 : 0 ≤ sgn (X - Re.of a)) (h2 : 0 ≤ sgn (Re.of b - X)) (h3 : 0 ≤ sgn (Y - Re.of c)) (h4 : 0 ≤ sgn (Re.of d - Y))
    (m1 : m ≤ a * c) (m2 : m ≤ a * d) (m3 : m ≤ b * c) (m4 : m ≤ b * d) : 0 ≤ sgn (X * Y - Re.of m) := by
  have fin : ∀ p : Rat, m ≤ p * c → m ≤ p * d → 0 ≤ sgn (Re.of p * Y - Re.of m) := by
    intro p hc hd
    by_cases hp : 0 ≤ p
    · refine nn_eq (fun n => ?_) (nn_add (nn_mul (nn_of.2 hp) h3) (nn_of.2 (show 0 ≤ p * c - m by grind)))
      simp only [Re.sub_s, Re.add_s, Re.mul_s, Re.of_s]; grind
    · refine nn_eq (fun n => ?_) (nn_add (nn_mul (nn_of.2 (show 0 ≤ -p by grind)) h4) (nn_of.2 (show 0 ≤ p * d - m by grind)))
      simp only [Re.sub_s, Re.add_s, Re.mul_s, Re.of_s]; grind
  by_cases hY : 0 ≤ sgn Y
  · refine nn_eq (fun n => ?_) (nn_add (nn_mul h1 hY) (fin a m1 m2))
    simp only [Re.sub_s, Re.add_s, Re.mul_s, Re.of_s]; grind
  · refine nn_eq (fun n => ?_) (nn_add (nn_mul h2 (nn_neg hY)) (fin b m3 m4))
    simp only [Re.sub_s, Re.add_s, Re.mul_s, Re.of_s, Re.neg_s]; grind
theorem mul_hi {X Y : Re} {a b c d m : Rat} (h1 : 0 ≤ sgn (X - Re.of a)) (h2 : 0 ≤ sgn (Re.of b - X)) (h3 : 0 ≤ sgn (Y - Re.of c)) (h4 : 0 ≤ sgn (Re.of d - Y))
    (m1 : a * c ≤ m) (m2 : a * d ≤ m) (m3 : b * c ≤ m) (m4 : b * d ≤ m) : 0 ≤ sgn (Re.of m - X * Y) := by
  have := mul_lo (X := -X) (Y := Y) (a := -b) (b := -a) (c := c) (d := d) (m := -m) (nn_eq (fun n => ?_) h2) (nn_eq (fun n => ?_) h1) h3 h4 (by grind) (by grind) (by grind) (by grind)
  · refine nn_eq (fun n => ?_) this
    simp only [Re.sub_s, Re.add_s, Re.mul_s, Re.of_s, Re.neg_s]; grind
  all_goals (simp only [Re.sub_s, Re.add_s, Re.mul_s, Re.of_s, Re.neg_s]; grind)
theorem inI_mul {a b c d lo hi : Int} {x y : Re} (h : inI a b x) (h' : inI c d y) (l1 : lo * 65536 ≤ a * c) (l2 : lo * 65536 ≤ a * d) (l3 : lo * 65536 ≤ b * c) (l4 : lo * 65536 ≤ b * d)
    (m1 : a * c ≤ hi * 65536) (m2 : a * d ≤ hi * 65536) (m3 : b * c ≤ hi * 65536) (m4 : b * d ≤ hi * 65536) : inI lo hi (x * y) := by
  have cast : ∀ {p q r s : Int}, p * q ≤ r * s → (p : Rat) * q ≤ (r : Rat) * s := fun {p q r s} h => by
    have : ((p * q : Int) : Rat) ≤ ((r * s : Int) : Rat) := by exact_mod_cast h
    rwa [Rat.intCast_mul, Rat.intCast_mul] at this
  have k1 := mul_lo h.1 h.2 h'.1 h'.2 (m := (lo : Rat) * 65536) (cast l1) (cast l2) (cast l3) (cast l4)
  have k2 := mul_hi h.1 h.2 h'.1 h'.2 (m := (hi : Rat) * 65536) (cast m1) (cast m2) (cast m3) (cast m4)
  have ten : 0 ≤ sgn (Re.of (1 / 65536)) := nn_of.2 (by decide +kernel)
  refine ⟨nn_eq (fun n => ?_) (nn_mul ten k1), nn_eq (fun n => ?_) (nn_mul ten k2)⟩ <;> simp only [Re.sub_s, Re.add_s, Re.mul_s, Re.of_s, Re.neg_s] <;> grind
theorem le_of_sq {x y : Re} (hy : 0 ≤ sgn y) (h : 0 ≤ sgn (y * y - x * x)) : 0 ≤ sgn (y - x) := by
  rcases sgn_cases (y - x) with ⟨a, b⟩ | ⟨a, b⟩ | ⟨a, b⟩ <;> try omega
  exfalso
  have h1 : sgn (y + x) = 1 := by
    have : y + x = y + y + -(y - x) := Re.ext fun n => by simp only [Re.sub_s, Re.add_s, Re.neg_s]; grind
    rw [this]
    have := (nonneg_add (nn_add hy hy) (y := -(y - x)) (by rw [sgn_neg]; omega)).2.1 (.inr (by rw [sgn_neg]; omega))
    exact this
  have : y * y - x * x = (y - x) * (y + x) := Re.ext fun n => by simp only [Re.sub_s, Re.add_s, Re.mul_s]; grind
  rw [this, sgn_mul] at h
  rw [b, h1] at h
  omega
theorem inI_sqrt {L H lo hi : Int} {q : Rat} (hq : 0 ≤ q) (h : inI L H (Re.of q)) (l0 : 0 ≤ lo) (l1 : lo * lo ≤ max L 0 * 65536) (h0 : 0 ≤ hi) (h1 : H * 65536 ≤ hi * hi) : inI lo hi (rt q) := by
  have hs := rt_sq hq
  have hp := rt_nonneg q
  have e : eqv ((Re.of 65536 * rt q) * (Re.of 65536 * rt q)) (Re.of (65536 * 65536 * q)) := by
    have : (Re.of 65536 * rt q) * (Re.of 65536 * rt q) = Re.of (65536 * 65536) * (rt q * rt q) := Re.ext fun n => by simp only [Re.mul_s, Re.of_s]; grind
    rw [this, Re.of_mul (65536 * 65536) q]
    exact eqv_mul (eqv_refl _) hs
  obtain ⟨a1, a2⟩ := h
  rw [← Re.of_mul, ← Re.of_sub, nn_of] at a1 a2
  have c1 : (lo : Rat) * lo ≤ 65536 * 65536 * q := by
    have : ((lo * lo : Int) : Rat) ≤ ((max L 0 * 65536 : Int) : Rat) := Rat.intCast_le_intCast.2 l1
    rw [Rat.intCast_mul, Rat.intCast_mul] at this
    have hm : ((max L 0 : Int) : Rat) ≤ 65536 * q := by
      by_cases hL : L ≤ 0
      · rw [Int.max_eq_right hL]
        have : ((0 : Int) : Rat) = 0 := rfl
        rw [this]; grind
      · rw [Int.max_eq_left (by omega)]; grind
    have e2 : ((65536 : Int) : Rat) = 65536 := rfl
    rw [e2] at this
    grind
  have c2 : 65536 * 65536 * q ≤ (hi : Rat) * hi := by
    have : ((H * 65536 : Int) : Rat) ≤ ((hi * hi : Int) : Rat) := Rat.intCast_le_intCast.2 h1
    rw [Rat.intCast_mul, Rat.intCast_mul] at this
    have e2 : ((65536 : Int) : Rat) = 65536 := rfl
    rw [e2] at this
    grind
  constructor
  · refine le_of_sq (nn_mul (nn_of.2 (by decide +kernel)) hp) ?_
    rw [sgn_eqv (eqv_sub e (eqv_refl _)), ← Re.of_mul, ← Re.of_sub, nn_of]
    grind
  · refine le_of_sq (nn_of.2 (by exact_mod_cast h0)) ?_
    rw [sgn_eqv (eqv_sub (eqv_refl _) e), ← Re.of_mul, ← Re.of_sub, nn_of]
    grind
theorem inI_pos {lo hi : Int} {x : Re} (h : inI lo hi x) (hl : 0 < lo) : sgn x = 1 := by
  have h1 := nn_add h.1 (nn_of.2 (show (0 : Rat) ≤ lo - 1 by
    have : (1 : Rat) ≤ lo := by exact_mod_cast hl
    grind))
  have h2 : sgn (Re.of 65536 * x) = 1 := by
    have := (nonneg_add h.1 (y := Re.of lo) (nn_of.2 (by exact_mod_cast Int.le_of_lt hl))).2.1 (.inr (by
      rw [sgn_of]; unfold sgnQ
      have : (0 : Rat) < lo := by exact_mod_cast hl
      split <;> (try split) <;> grind))
    have e : Re.of 65536 * x - Re.of lo + Re.of lo = Re.of 65536 * x := Re.ext fun n => by simp only [Re.sub_s, Re.add_s, Re.mul_s, Re.of_s]; grind
    rwa [e] at this
  rw [sgn_mul, sgn_of] at h2
  have : sgnQ 65536 = 1 := by decide +kernel
  rw [this] at h2
  omega
theorem inI_negv {lo hi : Int} {x : Re} (h : inI lo hi x) (hl : hi < 0) : sgn x = -1 := by
  have := inI_pos (inI_neg h) (by omega)
  rw [sgn_neg] at this
  omega
theorem inI_zero {x : Re} (h : inI 0 0 x) : sgn x = 0 := by
  have e1 : Re.of 65536 * x - Re.of (0 : Int) = Re.of 65536 * x := Re.ext fun n => by
    simp only [Re.sub_s, Re.mul_s, Re.of_s]
    have : ((0 : Int) : Rat) = 0 := rfl
    rw [this]; grind
  have e2 : Re.of (0 : Int) - Re.of 65536 * x = -(Re.of 65536 * x) := Re.ext fun n => by
    simp only [Re.sub_s, Re.mul_s, Re.of_s, Re.neg_s]
    have : ((0 : Int) : Rat) = 0 := rfl
    rw [this]; grind
  obtain ⟨h1, h2⟩ := h
  rw [e1, sgn_mul] at h1
  rw [e2, sgn_neg, sgn_mul] at h2
  have : sgn (Re.of 65536) = 1 := by rw [sgn_of]; decide +kernel
  rw [this] at h1 h2
  omega
end Go.RL

namespace Go.PL
open Go.RL

class SzR (q : Rat) (k : outParam Nat) : Prop where
  n : SzI q.num k
  d : SzI (q.den : Int) k
instance SzR.num' {q : Rat} {k : Nat} [h : SzR q k] : SzI q.num k := h.n
instance SzR.den' {q : Rat} {k : Nat} [h : SzR q k] : SzI (q.den : Int) k := h.d
theorem szi {x : Int} {k : Nat} [h : SzI x k] (hk : k ≤ 1000000 := by first | omega | decide) : (limbs x.natAbs).length ≤ 1000000 := Nat.le_trans h.le hk
theorem szi9 {x : Int} {k : Nat} [h : SzI x k] (hk : k ≤ 900000 := by first | omega | decide) : (limbs x.natAbs).length ≤ 900000 := Nat.le_trans h.le hk
theorem SzR.mk' {q : Rat} {k : Nat} (h1 : q.num.natAbs < BS ^ k) (h2 : q.den < BS ^ k) : SzR q k := ⟨SzI.of_lt h1, SzI.of_lt (by simpa using h2)⟩
theorem SzR.mono {q : Rat} {k l : Nat} (h : SzR q k) (hkl : k ≤ l) : SzR q l := ⟨h.n.mono hkl, h.d.mono hkl⟩
theorem SzI.le_of {x y : Int} {k : Nat} (h : SzI y k) (hxy : x.natAbs ≤ y.natAbs) : SzI x k := SzI.of_lt (Nat.lt_of_le_of_lt hxy h.lt)

theorem divInt_num {n d : Int} (hd : 0 < d) : (Rat.divInt n d).num = n / ((Nat.gcd n.natAbs d.natAbs : Nat) : Int) ∧ ((Rat.divInt n d).den : Int) = d / ((Nat.gcd n.natAbs d.natAbs : Nat) : Int) := by
  rw [Rat.num_divInt, Rat.den_divInt, if_neg (by omega), Int.sign_eq_one_of_pos hd, Int.one_mul, Int.gcd_comm]
  refine ⟨rfl, ?_⟩
  rw [Int.natCast_ediv, Int.natAbs_of_nonneg (by omega)]; rfl
theorem divInt_le (n d : Int) (hd : d ≠ 0) : (Rat.divInt n d).num.natAbs ≤ n.natAbs ∧ (Rat.divInt n d).den ≤ d.natAbs := by
  rw [Rat.num_divInt, Rat.den_divInt, if_neg hd]
  refine ⟨?_, Nat.div_le_self _ _⟩
  rw [Int.natAbs_ediv_of_dvd]
  · rw [Int.natAbs_mul, Int.natAbs_sign_of_ne_zero hd, Nat.one_mul]
    exact Nat.div_le_self _ _
  · exact Int.dvd_mul_of_dvd_right (Int.gcd_dvd_right ..)
theorem cast_ne {d : Int} (h : d ≠ 0) : (d : Rat) ≠ 0 := by exact_mod_cast h
theorem eq_divInt {x : Rat} {n d : Int} (hd : d ≠ 0) (h : x * d = n) : x = Rat.divInt n d := by
  rw [Rat.divInt_eq_div, ← h]
  have h1 := cast_ne hd
  have : x * (d : Rat) / (d : Rat) * d = x * d := Rat.div_mul_cancel h1
  have h2 : (x - x * (d : Rat) / (d : Rat)) * d = 0 := by grind
  rcases Rat.mul_eq_zero.1 h2 with q | q
  · grind
  · exact absurd q h1
theorem divInt_mul {n d : Int} (hd : d ≠ 0) : Rat.divInt n d * d = n := by
  rw [Rat.divInt_eq_div]; exact Rat.div_mul_cancel (cast_ne hd)
theorem den_ne (q : Rat) : ((q.den : Nat) : Int) ≠ 0 := by have := q.den_pos; omega
theorem num_den (q : Rat) : q * (((q.den : Nat) : Int) : Rat) = (q.num : Rat) := by rw [Rat.intCast_natCast]; exact den_mul q
instance SzI.den2 {a b : Rat} {k l : Nat} [h : SzR a k] [h' : SzR b l] : SzI ((a.den * b.den : Nat) : Int) (k + l) := by rw [Int.natCast_mul]; exact SzI.mul
theorem divInt_neg' (n d : Int) (hd : d ≠ 0) : Rat.divInt (-n) (-d) = Rat.divInt n d := by
  refine eq_divInt hd ?_
  have := divInt_mul (n := -n) (d := -d) (by omega)
  rw [Rat.intCast_neg, Rat.intCast_neg] at this
  grind
theorem add_divInt (a b : Rat) : Rat.divInt (a.num * (b.den : Int) + b.num * (a.den : Int)) ((a.den : Int) * (b.den : Int)) = a + b := by
  refine (eq_divInt (Int.mul_ne_zero (den_ne a) (den_ne b)) ?_).symm
  have h1 := num_den a
  have h2 := num_den b
  rw [Rat.intCast_add, Rat.intCast_mul, Rat.intCast_mul, Rat.intCast_mul, ← h1, ← h2]
  grind
theorem add_divInt' {a b : Rat} (h : (a.den : Int) = (b.den : Int)) : Rat.divInt (a.num + b.num) (a.den : Int) = a + b := by
  refine (eq_divInt (den_ne a) ?_).symm
  have h1 := num_den a
  have h2 := num_den b
  rw [← h] at h2
  rw [Rat.intCast_add, ← h1, ← h2]
  grind
theorem mul_divInt (a b : Rat) : Rat.divInt (a.num * b.num) ((a.den : Int) * (b.den : Int)) = a * b := by
  refine (eq_divInt (Int.mul_ne_zero (den_ne a) (den_ne b)) ?_).symm
  have h1 := num_den a
  have h2 := num_den b
  rw [Rat.intCast_mul, Rat.intCast_mul, ← h1, ← h2]
  grind
theorem num_ne {b : Rat} (h : b ≠ 0) : b.num ≠ 0 := fun q => h (Rat.num_eq_zero.1 q)
theorem div_divInt (a : Rat) {b : Rat} (hb : b ≠ 0) : Rat.divInt (a.num * (b.den : Int)) ((a.den : Int) * b.num) = a / b := by
  refine (eq_divInt (Int.mul_ne_zero (den_ne a) (num_ne hb)) ?_).symm
  have h1 := num_den a
  have h2 := num_den b
  rw [Rat.intCast_mul, Rat.intCast_mul, ← h1, ← h2]
  have : a / b * b = a := Rat.div_mul_cancel hb
  grind
theorem divInt_size {n d : Int} {k l : Nat} [h : SzI n k] [h' : SzI d l] (hd : d ≠ 0) : SzR (Rat.divInt n d) (max k l) := by
  obtain ⟨h1, h2⟩ := divInt_le n d hd
  exact ⟨(h.le_of h1).mono (by omega), (h'.le_of (x := ((Rat.divInt n d).den : Int)) (by simpa using h2)).mono (by omega)⟩
instance SzR.add {a b : Rat} {k l : Nat} [SzR a k] [SzR b l] : SzR (a + b) (k + l + 1) := by
  rw [← add_divInt a b]
  exact (divInt_size (Int.mul_ne_zero (den_ne a) (den_ne b))).mono (by omega)
instance SzR.mul {a b : Rat} {k l : Nat} [SzR a k] [SzR b l] : SzR (a * b) (k + l) := by
  rw [← mul_divInt a b]
  exact (divInt_size (Int.mul_ne_zero (den_ne a) (den_ne b))).mono (by omega)
instance SzR.neg {a : Rat} {k : Nat} [h : SzR a k] : SzR (-a) k := by
  refine ⟨?_, ?_⟩
  · rw [Rat.neg_num]; exact SzI.neg
  · rw [Rat.neg_den]; exact h.d
instance SzR.sub {a b : Rat} {k l : Nat} [SzR a k] [SzR b l] : SzR (a - b) (k + l + 1) := by
  rw [Rat.sub_eq_add_neg]; infer_instance
instance SzR.div {a b : Rat} {k l : Nat} [ha : SzR a k] [hb : SzR b l] : SzR (a / b) (k + l) := by
  by_cases h : b = 0
  · subst h
    have : a / 0 = 0 := by rw [Rat.div_def]; simp
    rw [this]
    have h1 := (hb.d).lt
    have h2 : ((0 : Rat).den : Int).natAbs = 1 := rfl
    rw [h2] at h1
    refine SzR.mk' (BS_pos _) ?_
    have h3 : BS ^ l ≤ BS ^ (k + l) := Nat.pow_le_pow_right (by decide) (by omega)
    have h4 : (0 : Rat).den = 1 := rfl
    omega
  · rw [← div_divInt a h]
    exact (divInt_size (Int.mul_ne_zero (den_ne a) (num_ne h))).mono (by omega)
theorem SzR.int {n : Int} {k : Nat} (h : SzI n k) (hk : 0 < k) : SzR (n : Rat) k := by
  refine ⟨by rw [Rat.num_intCast]; exact h, ?_⟩
  rw [Rat.den_intCast]
  refine SzI.of_lt ?_
  have : BS ^ 1 ≤ BS ^ k := Nat.pow_le_pow_right (by decide) hk
  have e : BS ^ 1 = 1000000000 := by decide
  have : ((1 : Nat) : Int).natAbs = 1 := rfl
  omega
theorem szi_lit {n : Int} {k : Nat} (h : n.natAbs < BS ^ k) : SzI n k := SzI.of_lt h
instance : SzI 0 1 := szi_lit (by decide)
instance : SzI 1 1 := szi_lit (by decide)
instance : SzI 2 1 := szi_lit (by decide)
instance : SzI (-2) 1 := szi_lit (by decide)
instance : SzR 0 1 := ⟨szi_lit (by decide), szi_lit (by decide)⟩
instance : SzR 1 1 := ⟨szi_lit (by decide), szi_lit (by decide)⟩
instance : SzR 2 1 := ⟨szi_lit (by decide), szi_lit (by decide)⟩
instance : SzR (-2) 1 := ⟨szi_lit (by decide), szi_lit (by decide)⟩
instance : SzR 65536 1 := ⟨szi_lit (by decide), szi_lit (by decide)⟩

-- signs and order
theorem num_neg_iff {q : Rat} : q.num < 0 ↔ q < 0 := by
  have := Rat.num_nonneg (q := q)
  constructor
  · intro h
    by_cases c : q < 0
    · exact c
    · have := this.2 (by grind); omega
  · intro h
    by_cases c : q.num < 0
    · exact c
    · have := this.1 (by omega); grind
theorem num_pos_iff {q : Rat} : 0 < q.num ↔ 0 < q := by
  have h1 := num_neg_iff (q := -q)
  rw [Rat.neg_num] at h1
  constructor
  · intro h; have := h1.1 (by omega); grind
  · intro h; have := h1.2 (by grind); omega
theorem sgnI_num (q : Rat) : sgnI q.num = sgnQ q := by
  unfold sgnI sgnQ
  by_cases h1 : q.num < 0
  · rw [if_pos h1, if_pos (num_neg_iff.1 h1)]
  · rw [if_neg h1, if_neg (fun c => h1 (num_neg_iff.2 c))]
    by_cases h2 : 0 < q.num
    · rw [if_pos h2, if_pos (num_pos_iff.1 h2)]
    · rw [if_neg h2, if_neg (fun c => h2 (num_pos_iff.2 c))]
theorem sgnI_ltz (x : Int) : (sgnI x < 0) = (x < 0) := by unfold sgnI; apply propext; split <;> (try split) <;> omega
theorem sgnQ_eqz (q : Rat) : (sgnQ q = 0) = (q = 0) := by
  unfold sgnQ; apply propext
  split
  · constructor <;> intro h <;> first | omega | (subst h; rename_i c; exact absurd c (by decide))
  · split
    · constructor <;> intro h <;> first | omega | (subst h; rename_i c; exact absurd c (by decide))
    · constructor <;> intro h <;> first | rfl | grind
theorem sgnQ_ltz (q : Rat) : (sgnQ q < 0) = (q < 0) := by
  unfold sgnQ; apply propext
  split
  · rename_i c; exact ⟨fun _ => c, fun _ => by omega⟩
  · split <;> (constructor <;> intro h <;> first | omega | grind)
theorem sgnQ_gtz (q : Rat) : (0 < sgnQ q) = (0 < q) := by
  unfold sgnQ; apply propext
  split
  · constructor <;> intro h <;> first | omega | grind
  · split
    · rename_i c; exact ⟨fun _ => c, fun _ => by omega⟩
    · constructor <;> intro h <;> first | omega | grind
theorem cmpI_cross (a b : Rat) : cmpI (a.num * (b.den : Int)) (b.num * (a.den : Int)) = cmpQ a b := by
  unfold cmpI cmpQ sgnQ
  have e1 : (a - b < 0) = (a.num * (b.den : Int) < b.num * (a.den : Int)) := by rw [← Rat.lt_iff]; exact propext ⟨fun h => by grind, fun h => by grind⟩
  have e2 : (0 < a - b) = (b.num * (a.den : Int) < a.num * (b.den : Int)) := by rw [← Rat.lt_iff]; exact propext ⟨fun h => by grind, fun h => by grind⟩
  simp only [e1, e2]
theorem cmpI_sgn {a b : Rat} (h : ¬ cmpI (sgnQ a) (sgnQ b) = 0) : cmpI (sgnQ a) (sgnQ b) = cmpQ a b := by
  unfold cmpI cmpQ sgnQ at *
  by_cases a1 : a < 0 <;> by_cases a2 : 0 < a <;> by_cases b1 : b < 0 <;> by_cases b2 : 0 < b <;> (try grind) <;> simp only [a1, a2, b1, b2, if_true, if_false] at h ⊢ <;>
    first
    | (exfalso; revert h; decide)
    | (rw [if_pos (show a - b < 0 by grind)]; decide)
    | (rw [if_neg (show ¬ a - b < 0 by grind), if_pos (show 0 < a - b by grind)]; decide)
attribute [go_sem] sgnI_ltz sgnQ_eqz sgnQ_ltz sgnQ_gtz
theorem tk_i (z : Int) (l : List PC) (k : Nat) : (intC z ++ l).take (k + 2) = intC z ++ l.take k := rfl
theorem dp_i (z : Int) (l : List PC) (k : Nat) : (intC z ++ l).drop (k + 2) = l.drop k := rfl
theorem tk_r (q : Rat) (l : List PC) (k : Nat) : (ratC q ++ l).take (k + 4) = ratC q ++ l.take k := rfl
theorem dp_r (q : Rat) (l : List PC) (k : Nat) : (ratC q ++ l).drop (k + 4) = l.drop k := rfl
theorem tk_r2 (q : Rat) (l : List PC) : (ratC q ++ l).take 2 = intC q.num := rfl
theorem dp_r2 (q : Rat) (l : List PC) : (ratC q ++ l).drop 2 = intC (q.den : Int) ++ l := rfl
theorem dp_ic (z : Int) (k : Nat) : (intC z).drop (k + 2) = [] := by simp [List.drop_eq_nil_of_le]
theorem dp_rc (q : Rat) (k : Nat) : (ratC q).drop (k + 4) = [] := by simp [List.drop_eq_nil_of_le]
theorem tk_ic (z : Int) (k : Nat) : (intC z).take (k + 2) = intC z := List.take_of_length_le (by rw [intC_length]; omega)
theorem tk_rc (q : Rat) (k : Nat) : (ratC q).take (k + 4) = ratC q := List.take_of_length_le (by rw [ratC_length]; omega)
theorem ia_ne (z : Int) (l : List PC) : (intC z ++ l = []) = False := by simp [intC]
theorem ra_ne (q : Rat) (l : List PC) : (ratC q ++ l = []) = False := by simp [ratC, intC]
theorem fi_ia (z : Int) (l : List PC) : frzIds (intC z ++ l) = frzIds l := rfl
theorem fi_ra (q : Rat) (l : List PC) : frzIds (ratC q ++ l) = frzIds l := rfl
attribute [go_sem] fi_ia fi_ra List.all_append List.map_append ia_ne ra_ne tk_i dp_i tk_r dp_r tk_r2 dp_r2 dp_ic dp_rc tk_ic tk_rc
theorem ratC_int (n : Int) : ratC (n : Rat) = intC n ++ intC 1 := by
  unfold ratC; rw [Rat.num_intCast, Rat.den_intCast]; rfl
theorem ratC_neg (q : Rat) : ratC (-q) = intC (-q.num) ++ intC (q.den : Int) := by
  unfold ratC; rw [Rat.neg_num, Rat.neg_den]
theorem ratC_red {n d : Int} (hd : 0 < d) : ratC (Rat.divInt n d) = intC (n / ((Nat.gcd n.natAbs d.natAbs : Nat) : Int)) ++ intC (d / ((Nat.gcd n.natAbs d.natAbs : Nat) : Int)) := by
  obtain ⟨h1, h2⟩ := divInt_num (n := n) hd
  unfold ratC; rw [h1, h2]
theorem ratC_red1 {n d : Int} (hd : 0 < d) (hg : ((Nat.gcd n.natAbs d.natAbs : Nat) : Int) = 1) : ratC (Rat.divInt n d) = intC n ++ intC d := by
  rw [ratC_red hd, hg, Int.ediv_one, Int.ediv_one]
theorem cmpI_lt {x y : Int} (h : x < y) : cmpI x y = -1 := by simp [cmpI, h]
theorem cmpI_gt {x y : Int} (h : y < x) : cmpI x y = 1 := by unfold cmpI; split <;> (try split) <;> omega
instance SzI.gcd' {x y : Int} {k l : Nat} [h : SzI x k] [h' : SzI y l] : SzI ((Nat.gcd x.natAbs y.natAbs : Nat) : Int) (k + l) := by
  by_cases hx : x = 0
  · subst hx
    refine (h'.le_of ?_).mono (by omega)
    simp
  · refine (h.le_of ?_).mono (by omega)
    simp only [Int.natAbs_natCast]
    exact Nat.gcd_le_left _ (by omega)
instance SzI.div' {x y : Int} {k l : Nat} [h : SzI x k] [SzI y l] : SzI (x / y) k := by
  have h1 := h.lt
  refine SzI.of_lt ?_
  have h2 : (x / y).natAbs ≤ x.natAbs := Int.natAbs_ediv_le_natAbs x y
  omega
def zratC : List PC := [.bool false, .sl 0 [], .bool false, .sl 0 []]
end Go.PL

set_option linter.unusedSimpArgs false
set_option linter.unusedVariables false
set_option maxRecDepth 20000
namespace Go.Proofs.YtdojhoegildiaaaGreat
open Go Go.PL Go.RL
set_option maxHeartbeats 4000000 in
theorem c_isNaN (x : Int) :
    Ret Tryz.prog 126 [.c (.int .i64 x)] (.e (.c (.bool false))) := by
  refine ret_of_body (md := {}) Tryz.func126 (by kernel_rfl) rfl ?_; simp only [Tryz.f126, go_sem, Nat.reduceAdd, Nat.reduceSub, List.reduceReplicate]; refine pwx_sr 0 [] (by rfl) fun _ K1 => ?_; simp (disch := omega) only [go_sem]; refine K1 _ ?_; clear K1; refine pwx_sr 0 [] (by rfl) fun _ K2 => ?_; simp (disch := omega) only [go_sem]; refine K2 _ ?_; clear K2; refine pwp_ret ?_; refine ⟨Or.inr rfl, ?_⟩; simp (disch := omega) only [go_sem]
set_option maxHeartbeats 4000000 in
theorem c_cmpCompare (x y : Int) :
    Ret Tryz.prog 93 [.c (.int .i64 x), .c (.int .i64 y)] (.e (.c (.int .i64 (cmpI x y)))) := by
  refine ret_of_body (md := {}) Tryz.func93 (by kernel_rfl) rfl ?_; simp only [Tryz.f93, go_sem, Nat.reduceAdd, Nat.reduceSub, List.reduceReplicate]; refine pwx_sr 0 [] (by rfl) fun _ K1 => ?_; simp (disch := omega) only [go_sem]; refine K1 _ ?_; clear K1; refine pwx_sr 0 [] (by rfl) fun _ K2 => ?_; refine rgnX_take 2 fun _ K3 => ?_; simp (disch := omega) only [go_sem]; refine ⟨_, c_isNaN _, ?_⟩; refine K3 _ ?_; simp (disch := omega) only [go_sem]; refine K2 _ ?_; clear K3 K2; refine pwx_sr 0 [] (by rfl) fun _ K4 => ?_; refine rgnX_take 2 fun _ K5 => ?_; simp (disch := omega) only [go_sem]; refine ⟨_, c_isNaN _, ?_⟩; refine K5 _ ?_; simp (disch := omega) only [go_sem]; refine K4 _ ?_; clear K5 K4; refine pwp_seq ?_; refine pwx_sr 0 [] (by rfl) fun _ K6 => ?_; simp (disch := omega) only [go_sem]; refine K6 _ ?_; clear K6; refine pwp_cond (b := false) (by rfl) (fun h => nomatch h) (fun _ => ?_); refine pwp_skip ?_; refine n_then ?_; refine pwp_seq ?_; refine pwx_sr 0 [] (by rfl) fun _ K7 => ?_; simp (disch := omega) only [go_sem]; refine K7 _ ?_; clear K7; refine pwp_cond (b := false) (by rfl) (fun h => nomatch h) (fun _ => ?_); refine pwp_skip ?_; refine n_then ?_; refine pwp_seq ?_; refine pwx_sr 0 [] (by rfl) fun _ K8 => ?_; simp (disch := omega) only [go_sem]; refine K8 _ ?_; clear K8; refine pwp_cond (b := _) (by rfl) (fun hb2 => ?_) (fun hb2 => ?_)
  · first | replace hb2 := of_decide_eq_true hb2 | skip
    refine pwx_sr 0 [] (by rfl) fun _ K9 => ?_; simp (disch := omega) only [go_sem]; refine K9 _ ?_; clear K9; refine pwp_ret ?_; refine r_then ?_; refine ⟨Or.inr rfl, ?_⟩; simp (disch := omega) only [go_sem]; rw [cmpI_lt (by omega)]
  · first | replace hb2 := of_decide_eq_false hb2 | skip
    refine pwp_skip ?_; refine n_then ?_; refine pwp_seq ?_; refine pwx_sr 0 [] (by rfl) fun _ K10 => ?_; simp (disch := omega) only [go_sem]; refine K10 _ ?_; clear K10; refine pwp_cond (b := _) (by rfl) (fun hb3 => ?_) (fun hb3 => ?_)
    · first | replace hb3 := of_decide_eq_true hb3 | skip
      refine pwx_sr 0 [] (by rfl) fun _ K11 => ?_; simp (disch := omega) only [go_sem]; refine K11 _ ?_; clear K11; refine pwp_ret ?_; refine r_then ?_; refine ⟨Or.inr rfl, ?_⟩; simp (disch := omega) only [go_sem]; rw [cmpI_gt (by omega)]
    · first | replace hb3 := of_decide_eq_false hb3 | skip
      refine pwp_skip ?_; refine n_then ?_; refine pwx_sr 0 [] (by rfl) fun _ K12 => ?_; simp (disch := omega) only [go_sem]; refine K12 _ ?_; clear K12; refine pwp_ret ?_; refine ⟨Or.inr rfl, ?_⟩; simp (disch := omega) only [go_sem]; omega
set_option maxHeartbeats 4000000 in
theorem c_rational_unit :
    Ret Tryz.prog 119 [] (.e (.a (intC 1))) := by
  refine ret_of_body (md := {}) Tryz.func119 (by kernel_rfl) rfl ?_; simp only [Tryz.f119, go_sem, Nat.reduceAdd, Nat.reduceSub, List.reduceReplicate]; refine pwx_sr 1 [] (by rfl) fun _ K1 => ?_; simp (disch := omega) only [go_sem]; refine K1 _ ?_; clear K1; refine pwx_sr 0 [] (by rfl) fun _ K2 => ?_; refine rgnX_take 1 fun _ K3 => ?_; simp (disch := omega) only [go_sem]; refine ⟨_, c_integer_FromInt64 _ (by omega) (by omega), ?_⟩; refine K3 _ ?_; simp (disch := omega) only [go_sem]; refine K2 _ ?_; clear K3 K2; refine pwp_ret ?_; refine ⟨Or.inr rfl, ?_⟩; simp (disch := omega) only [go_sem]
set_option maxHeartbeats 4000000 in
theorem c_rational_whole (n : Int) :
    Ret Tryz.prog 99 [.a (intC n)] (.e (.a (ratC (n : Rat)))) := by
  refine ret_of_body (md := {}) Tryz.func99 (by kernel_rfl) rfl ?_; simp only [Tryz.f99, go_sem, Nat.reduceAdd, Nat.reduceSub, List.reduceReplicate]; refine pwx_sr 2 [] (by rfl) fun _ K1 => ?_; simp (disch := omega) only [go_sem]; refine K1 _ ?_; clear K1; refine pwx_sd Tryz.mixed 0 [] (by rfl) [] (by kernel_rfl) (by simp) fun _ K2 => ?_; refine rgnX_take 2 fun _ K3 => ?_; simp (disch := omega) only [go_sem]; refine ⟨_, c_rational_unit, ?_⟩; refine K3 _ ?_; simp (disch := omega) only [go_sem]; refine K2 _ ?_; clear K3 K2; refine pwp_ret ?_; refine ⟨Or.inr rfl, ?_⟩; simp (disch := omega) only [go_sem]
  all_goals rw [ratC_int]
set_option maxHeartbeats 4000000 in
theorem c_rational_FromInt64 (n : Int) (h0 : -9223372036854775808 ≤ n) (h1 : n < 9223372036854775808) :
    Ret Tryz.prog 56 [.c (.int .i64 n)] (.e (.a (ratC (n : Rat)))) := by
  refine ret_of_body (md := {}) Tryz.func56 (by kernel_rfl) rfl ?_; simp only [Tryz.f56, go_sem, Nat.reduceAdd, Nat.reduceSub, List.reduceReplicate]; refine pwx_sr 1 [] (by rfl) fun _ K1 => ?_; simp (disch := omega) only [go_sem]; refine K1 _ ?_; clear K1; refine pwx_sr 0 [] (by rfl) fun _ K2 => ?_; refine rgnX_take 2 fun _ K3 => ?_; simp (disch := omega) only [go_sem]; refine ⟨_, c_integer_FromInt64 _ (by omega) (by omega), ?_⟩; refine K3 _ ?_; refine rgnX_take 1 fun _ K4 => ?_; simp (disch := omega) only [go_sem]; refine ⟨_, c_rational_whole _, ?_⟩; refine K4 _ ?_; simp (disch := omega) only [go_sem]; refine K2 _ ?_; clear K4 K3 K2; refine pwp_ret ?_; refine ⟨Or.inr rfl, ?_⟩; simp (disch := omega) only [go_sem]
  all_goals rw [ratC_int]
set_option maxHeartbeats 4000000 in
theorem c_rational_exact (x y : Int) {k l : Nat} [SzI x k] [SzI y l] (hkl : k + l ≤ 900000) (hy0 : 0 < y) :
    Ret Tryz.prog 120 [.a (intC x), .a (intC y)] (.e (.a (intC (x / y)))) := by
  refine ret_of_body (md := {}) Tryz.func120 (by kernel_rfl) rfl ?_; simp only [Tryz.f120, go_sem, Nat.reduceAdd, Nat.reduceSub, List.reduceReplicate]; refine pwx_sr 3 [] (by rfl) fun _ K1 => ?_; simp (disch := omega) only [go_sem]; refine K1 _ ?_; clear K1; refine pwx_sr 2 [] (by rfl) fun _ K2 => ?_; refine rgnX_take 3 fun _ K3 => ?_; simp (disch := omega) only [go_sem]; refine ⟨_, c_integer_DivMod _ _ szi szi (by first | assumption | omega), ?_⟩; refine K3 _ ?_; simp (disch := omega) only [go_sem]; refine K2 _ ?_; clear K3 K2; refine pwx_sr 0 [] (by rfl) fun _ K4 => ?_; simp (disch := omega) only [go_sem]; refine K4 _ ?_; clear K4; refine pwp_ret ?_; refine ⟨Or.inr rfl, ?_⟩; simp (disch := omega) only [go_sem]
  all_goals skip
set_option maxHeartbeats 4000000 in
theorem c_rational_reduce (n d : Int) {k l : Nat} [hsn : SzI n k] [hsd : SzI d l] (hkl : k + l ≤ 400000) (hd : d ≠ 0) :
    Ret Tryz.prog 85 [.a (intC n), .a (intC d)] (.e (.a (ratC (Rat.divInt n d)))) := by
  refine ret_of_body (md := {}) Tryz.func85 (by kernel_rfl) rfl ?_; simp only [Tryz.f85, go_sem, Nat.reduceAdd, Nat.reduceSub, List.reduceReplicate]; refine pwx_sr 3 [] (by rfl) fun _ K1 => ?_; simp (disch := omega) only [go_sem]; refine K1 _ ?_; clear K1; refine pwp_join (false :: false :: true :: true :: true :: false :: false :: false :: false :: false :: false :: false :: false :: false :: false :: false :: false :: false :: false :: false :: false :: false :: false :: false :: false :: false :: false :: false :: false :: []) 3 (fun s => ∃ n' : Int, ∃ d' : Int, (SzI n' k) ∧ (SzI d' l) ∧ (0 < d') ∧ (Rat.divInt n' d' = Rat.divInt n d) ∧ s = { slots := .j :: .j :: .e (.c (.ptr 0 0)) :: .e (.c (.ptr 1 0)) :: .e (.c (.ptr 2 0)) :: .j :: .j :: .j :: .j :: .j :: .j :: .j :: .j :: .j :: .j :: .j :: .j :: .j :: .j :: .j :: .j :: .j :: .j :: .j :: .j :: .j :: .j :: .j :: .j :: [], st := [.live (intC n'), .live (intC d'), .live [.bool false, .nils, .bool false, .nils]] }) rfl ?_ ?_
  · refine pwx_sr 0 [] (by rfl) fun _ K2 => ?_; refine rgnX_take 2 fun _ K3 => ?_; simp (disch := omega) only [go_sem]; refine ⟨_, c_integer_Sign _, ?_⟩; refine K3 _ ?_; simp (disch := omega) only [go_sem]; refine K2 _ ?_; clear K3 K2; refine pwp_cond (b := _) (by rfl) (fun hb0 => ?_) (fun hb0 => ?_)
    · first | replace hb0 := of_decide_eq_true hb0 | skip
      refine pwx_draw Tryz.mixed 0 [] (by rfl) [] (by kernel_rfl) (by simp) fun _ K4 => ?_; refine rgnX_take 2 fun _ K5 => ?_; simp (disch := omega) only [go_sem]; refine ⟨_, c_integer_Neg _ szi, ?_⟩; refine K5 _ ?_; refine rgnX_take 2 fun _ K6 => ?_; simp (disch := omega) only [go_sem]; refine ⟨_, c_integer_Neg _ szi, ?_⟩; refine K6 _ ?_; simp (disch := omega) only [go_sem]; refine K4 _ ?_; clear K6 K5 K4; refine n_then ?_; refine ⟨⟨-n, -d, ?hf0, ?hf1, ?hf2, ?hf3, ?heq⟩, ?hok⟩
      case heq => first | rfl | simp [St.cut, keep]
      case hf0 => infer_instance
      case hf1 => infer_instance
      case hf2 => omega
      case hf3 => exact divInt_neg' n d hd
      case hok => refine ⟨rfl, ?_, ?_⟩ <;> first | rfl | (simp [keep, PV.lt, PE.lt, PC.lt, Box.lt, ↓lC_lt]; done) | simp [keep, PV.lt, PE.lt, PC.lt, Box.lt, ↓lC_lt, ↓intC_lt, ↓ratC_lt, ↓u32s_lt]
    · first | replace hb0 := of_decide_eq_false hb0 | skip
      refine pwp_skip ?_; refine n_then ?_; refine ⟨⟨n, d, ?hf0, ?hf1, ?hf2, ?hf3, ?heq⟩, ?hok⟩
      case heq => first | rfl | simp [St.cut, keep]
      case hf0 => assumption
      case hf1 => assumption
      case hf2 => omega
      case hf3 => rfl
      case hok => refine ⟨rfl, ?_, ?_⟩ <;> first | rfl | (simp [keep, PV.lt, PE.lt, PC.lt, Box.lt, ↓lC_lt]; done) | simp [keep, PV.lt, PE.lt, PC.lt, Box.lt, ↓lC_lt, ↓intC_lt, ↓ratC_lt, ↓u32s_lt]
  · rintro _ ⟨n', d', hn1, hd1, hd0, hdd, rfl⟩
    have hg0 : 0 < ((Nat.gcd n'.natAbs d'.natAbs : Nat) : Int) := by have := Nat.gcd_pos_of_pos_right n'.natAbs (show 0 < d'.natAbs by omega); omega
    rw [← hdd]; refine pwp_seq ?_; refine pwx_sr 1 [] (by rfl) fun _ K7 => ?_; refine rgnX_take 3 fun _ K8 => ?_; simp (disch := omega) only [go_sem]; refine ⟨_, c_integer_GCD _ _ szi szi, ?_⟩; refine K8 _ ?_; simp (disch := omega) only [go_sem]; refine K7 _ ?_; clear K8 K7; refine pwx_sd Tryz.mixed 0 [] (by rfl) [] (by kernel_rfl) (by simp) fun _ K9 => ?_; refine rgnX_take 2 fun _ K10 => ?_; simp (disch := omega) only [go_sem]; refine ⟨_, c_rational_unit, ?_⟩; refine K10 _ ?_; refine rgnX_take 1 fun _ K11 => ?_; simp (disch := omega) only [go_sem]; refine ⟨_, c_integer_Cmp _ _ szi szi, ?_⟩; refine K11 _ ?_; simp (disch := omega) only [go_sem]; refine K9 _ ?_; clear K11 K10 K9; refine pwp_cond (b := _) (by rfl) (fun hb1 => ?_) (fun hb1 => ?_)
    · first | replace hb1 := of_decide_eq_true hb1 | skip
      refine pwx_draw Tryz.mixed 0 [] (by rfl) [] (by kernel_rfl) (by simp) fun _ K12 => ?_; refine rgnX_take 3 fun _ K13 => ?_; simp (disch := omega) only [go_sem]; refine ⟨_, c_rational_exact _ _ (by omega) (by first | assumption | omega), ?_⟩; refine K13 _ ?_; refine rgnX_take 3 fun _ K14 => ?_; simp (disch := omega) only [go_sem]; refine ⟨_, c_rational_exact _ _ (by omega) (by first | assumption | omega), ?_⟩; refine K14 _ ?_; simp (disch := omega) only [go_sem]; refine K12 _ ?_; clear K14 K13 K12; refine n_then ?_; refine pwx_sr 0 [] (by rfl) fun _ K15 => ?_; simp (disch := omega) only [go_sem]; refine K15 _ ?_; clear K15; refine pwp_ret ?_; refine ⟨Or.inr rfl, ?_⟩; simp (disch := omega) only [go_sem]
      all_goals rw [ratC_red hd0]
    · replace hb1 : ((Nat.gcd n'.natAbs d'.natAbs : Nat) : Int) = 1 := by simpa using hb1
      refine pwp_skip ?_; refine n_then ?_; refine pwx_sr 0 [] (by rfl) fun _ K16 => ?_; simp (disch := omega) only [go_sem]; refine K16 _ ?_; clear K16; refine pwp_ret ?_; refine ⟨Or.inr rfl, ?_⟩; simp (disch := omega) only [go_sem]
      all_goals rw [ratC_red1 hd0 hb1]
set_option maxHeartbeats 4000000 in
theorem c_rational_Sign (a : Rat) :
    Ret Tryz.prog 38 [.a (ratC a)] (.e (.c (.int .i64 (sgnQ a)))) := by
  refine ret_of_body (md := {}) Tryz.func38 (by kernel_rfl) rfl ?_; simp only [Tryz.f38, go_sem, Nat.reduceAdd, Nat.reduceSub, List.reduceReplicate]; refine pwx_sr 1 [] (by rfl) fun _ K1 => ?_; simp (disch := omega) only [go_sem]; refine K1 _ ?_; clear K1; refine pwx_sr 0 [] (by rfl) fun _ K2 => ?_; refine rgnX_take 3 fun _ K3 => ?_; simp (disch := omega) only [go_sem]; refine ⟨_, c_integer_Sign _, ?_⟩; refine K3 _ ?_; simp (disch := omega) only [go_sem]; refine K2 _ ?_; clear K3 K2; refine pwp_ret ?_; refine ⟨Or.inr rfl, ?_⟩; simp (disch := omega) only [go_sem]
  all_goals rw [sgnI_num]
set_option maxHeartbeats 4000000 in
theorem c_rational_Cmp (a b : Rat) {k l : Nat} [SzR a k] [SzR b l] (hkl : k + l ≤ 150000) :
    Ret Tryz.prog 51 [.a (ratC a), .a (ratC b)] (.e (.c (.int .i64 (cmpQ a b)))) := by
  refine ret_of_body (md := {}) Tryz.func51 (by kernel_rfl) rfl ?_; simp only [Tryz.f51, go_sem, Nat.reduceAdd, Nat.reduceSub, List.reduceReplicate]; have hda := a.den_pos; have hdb := b.den_pos; have hdab := Nat.mul_pos hda hdb; refine pwx_sr 2 [] (by rfl) fun _ K1 => ?_; simp (disch := omega) only [go_sem]; refine K1 _ ?_; clear K1; refine pwp_seq ?_; refine pwx_sd Tryz.mixed 0 [] (by rfl) [] (by kernel_rfl) (by simp) fun _ K2 => ?_; refine rgnX_take 2 fun _ K3 => ?_; simp (disch := omega) only [go_sem]; refine ⟨_, c_rational_Sign _, ?_⟩; refine K3 _ ?_; refine rgnX_take 2 fun _ K4 => ?_; simp (disch := omega) only [go_sem]; refine ⟨_, c_rational_Sign _, ?_⟩; refine K4 _ ?_; refine rgnX_take 1 fun _ K5 => ?_; simp (disch := omega) only [go_sem]; refine ⟨_, c_cmpCompare _ _, ?_⟩; refine K5 _ ?_; simp (disch := omega) only [go_sem]; refine K2 _ ?_; clear K5 K4 K3 K2; refine pwx_sr 0 [] (by rfl) fun _ K6 => ?_; simp (disch := omega) only [go_sem]; refine K6 _ ?_; clear K6; refine pwp_cond (b := _) (by rfl) (fun hb0 => ?_) (fun hb0 => ?_)
  · first | replace hb0 := of_decide_eq_true hb0 | skip
    refine pwx_sr 0 [] (by rfl) fun _ K7 => ?_; simp (disch := omega) only [go_sem]; refine K7 _ ?_; clear K7; refine pwp_ret ?_; refine r_then ?_; refine ⟨Or.inr rfl, ?_⟩; simp (disch := omega) only [go_sem]; exact (cmpI_sgn (by rw [cmpI_eqz]; simpa using hb0)).symm
  · first | replace hb0 := of_decide_eq_false hb0 | skip
    refine pwp_skip ?_; refine n_then ?_; refine pwx_sd Tryz.mixed 0 [] (by rfl) [] (by kernel_rfl) (by simp) fun _ K8 => ?_; refine rgnX_take 5 fun _ K9 => ?_; simp (disch := omega) only [go_sem]; refine ⟨_, c_integer_Mul _ _ szi szi, ?_⟩; refine K9 _ ?_; refine rgnX_take 5 fun _ K10 => ?_; simp (disch := omega) only [go_sem]; refine ⟨_, c_integer_Mul _ _ szi szi, ?_⟩; refine K10 _ ?_; refine rgnX_take 1 fun _ K11 => ?_; simp (disch := omega) only [go_sem]; refine ⟨_, c_integer_Cmp _ _ szi szi, ?_⟩; refine K11 _ ?_; simp (disch := omega) only [go_sem]; refine K8 _ ?_; clear K11 K10 K9 K8; refine pwp_ret ?_; refine ⟨Or.inr rfl, ?_⟩; simp (disch := omega) only [go_sem]; rw [cmpI_cross]
set_option maxHeartbeats 4000000 in
theorem c_rational_Add (a b : Rat) {k l : Nat} [SzR a k] [SzR b l] (hkl : k + l ≤ 150000) :
    Ret Tryz.prog 42 [.a (ratC a), .a (ratC b)] (.e (.a (ratC (a + b)))) := by
  refine ret_of_body (md := {}) Tryz.func42 (by kernel_rfl) rfl ?_; simp only [Tryz.f42, go_sem, Nat.reduceAdd, Nat.reduceSub, List.reduceReplicate]; have hda := a.den_pos; have hdb := b.den_pos; have hdab := Nat.mul_pos hda hdb; refine pwx_sr 3 [] (by rfl) fun _ K1 => ?_; simp (disch := omega) only [go_sem]; refine K1 _ ?_; clear K1; refine pwp_seq ?_; refine pwx_sr 0 [] (by rfl) fun _ K2 => ?_; refine rgnX_take 5 fun _ K3 => ?_; simp (disch := omega) only [go_sem]; refine ⟨_, c_integer_Cmp _ _ szi szi, ?_⟩; refine K3 _ ?_; simp (disch := omega) only [go_sem]; refine K2 _ ?_; clear K3 K2; refine pwp_cond (b := _) (by rfl) (fun hb0 => ?_) (fun hb0 => ?_)
  · first | replace hb0 := of_decide_eq_true hb0 | skip
    refine pwx_sd Tryz.mixed 0 [] (by rfl) [] (by kernel_rfl) (by simp) fun _ K4 => ?_; refine rgnX_take 5 fun _ K5 => ?_; simp (disch := omega) only [go_sem]; refine ⟨_, c_integer_Add _ _ szi szi, ?_⟩; refine K5 _ ?_; refine rgnX_take 3 fun _ K6 => ?_; simp (disch := omega) only [go_sem]; refine ⟨_, c_rational_reduce _ _ (by omega) (by first | assumption | omega), ?_⟩; refine K6 _ ?_; simp (disch := omega) only [go_sem]; refine K4 _ ?_; clear K6 K5 K4; refine pwp_ret ?_; refine r_then ?_; refine ⟨Or.inr rfl, ?_⟩; simp (disch := omega) only [go_sem]; rw [add_divInt' hb0]
  · first | replace hb0 := of_decide_eq_false hb0 | skip
    refine pwp_skip ?_; refine n_then ?_; refine pwx_sd Tryz.mixed 0 [] (by rfl) [] (by kernel_rfl) (by simp) fun _ K7 => ?_; refine rgnX_take 5 fun _ K8 => ?_; simp (disch := omega) only [go_sem]; refine ⟨_, c_integer_Mul _ _ szi szi, ?_⟩; refine K8 _ ?_; refine rgnX_take 5 fun _ K9 => ?_; simp (disch := omega) only [go_sem]; refine ⟨_, c_integer_Mul _ _ szi szi, ?_⟩; refine K9 _ ?_; refine rgnX_take 1 fun _ K10 => ?_; simp (disch := omega) only [go_sem]; refine ⟨_, c_integer_Add _ _ szi szi, ?_⟩; refine K10 _ ?_; refine rgnX_take 5 fun _ K11 => ?_; simp (disch := omega) only [go_sem]; refine ⟨_, c_integer_Mul _ _ szi szi, ?_⟩; refine K11 _ ?_; refine rgnX_take 1 fun _ K12 => ?_; simp (disch := omega) only [go_sem]; refine ⟨_, c_rational_reduce _ _ (by omega) (by first | assumption | omega), ?_⟩; refine K12 _ ?_; simp (disch := omega) only [go_sem]; refine K7 _ ?_; clear K12 K11 K10 K9 K8 K7; refine pwp_ret ?_; refine ⟨Or.inr rfl, ?_⟩; simp (disch := omega) only [go_sem]; rw [← add_divInt a b, Int.natCast_mul]
set_option maxHeartbeats 4000000 in
theorem c_rational_Neg (a : Rat) {k : Nat} [SzR a k] (hk : k ≤ 800000) :
    Ret Tryz.prog 58 [.a (ratC a)] (.e (.a (ratC (-a)))) := by
  refine ret_of_body (md := {}) Tryz.func58 (by kernel_rfl) rfl ?_; simp only [Tryz.f58, go_sem, Nat.reduceAdd, Nat.reduceSub, List.reduceReplicate]; refine pwx_sr 2 [] (by rfl) fun _ K1 => ?_; simp (disch := omega) only [go_sem]; refine K1 _ ?_; clear K1; refine pwx_sd Tryz.mixed 0 [] (by rfl) [] (by kernel_rfl) (by simp) fun _ K2 => ?_; refine rgnX_take 3 fun _ K3 => ?_; simp (disch := omega) only [go_sem]; refine ⟨_, c_integer_Neg _ szi, ?_⟩; refine K3 _ ?_; simp (disch := omega) only [go_sem]; refine K2 _ ?_; clear K3 K2; refine pwp_ret ?_; refine ⟨Or.inr rfl, ?_⟩; simp (disch := omega) only [go_sem]
  all_goals rw [ratC_neg]
set_option maxHeartbeats 4000000 in
theorem c_rational_Sub (a b : Rat) {k l : Nat} [SzR a k] [SzR b l] (hkl : k + l ≤ 150000) :
    Ret Tryz.prog 44 [.a (ratC a), .a (ratC b)] (.e (.a (ratC (a - b)))) := by
  refine ret_of_body (md := {}) Tryz.func44 (by kernel_rfl) rfl ?_; simp only [Tryz.f44, go_sem, Nat.reduceAdd, Nat.reduceSub, List.reduceReplicate]; refine pwx_sr 3 [] (by rfl) fun _ K1 => ?_; simp (disch := omega) only [go_sem]; refine K1 _ ?_; clear K1; refine pwx_sd Tryz.mixed 0 [] (by rfl) [] (by kernel_rfl) (by simp) fun _ K2 => ?_; refine rgnX_take 3 fun _ K3 => ?_; simp (disch := omega) only [go_sem]; refine ⟨_, c_rational_Neg _ (by omega), ?_⟩; refine K3 _ ?_; refine rgnX_take 1 fun _ K4 => ?_; simp (disch := omega) only [go_sem]; refine ⟨_, c_rational_Add _ _ (by omega), ?_⟩; refine K4 _ ?_; simp (disch := omega) only [go_sem]; refine K2 _ ?_; clear K4 K3 K2; refine pwp_ret ?_; refine ⟨Or.inr rfl, ?_⟩; simp (disch := omega) only [go_sem]; rw [Rat.sub_eq_add_neg]
set_option maxHeartbeats 4000000 in
theorem c_rational_Mul (a b : Rat) {k l : Nat} [SzR a k] [SzR b l] (hkl : k + l ≤ 150000) :
    Ret Tryz.prog 43 [.a (ratC a), .a (ratC b)] (.e (.a (ratC (a * b)))) := by
  refine ret_of_body (md := {}) Tryz.func43 (by kernel_rfl) rfl ?_; simp only [Tryz.f43, go_sem, Nat.reduceAdd, Nat.reduceSub, List.reduceReplicate]; have hda := a.den_pos; have hdb := b.den_pos; have hdab := Nat.mul_pos hda hdb; refine pwx_sr 3 [] (by rfl) fun _ K1 => ?_; simp (disch := omega) only [go_sem]; refine K1 _ ?_; clear K1; refine pwx_sd Tryz.mixed 0 [] (by rfl) [] (by kernel_rfl) (by simp) fun _ K2 => ?_; refine rgnX_take 5 fun _ K3 => ?_; simp (disch := omega) only [go_sem]; refine ⟨_, c_integer_Mul _ _ szi szi, ?_⟩; refine K3 _ ?_; refine rgnX_take 5 fun _ K4 => ?_; simp (disch := omega) only [go_sem]; refine ⟨_, c_integer_Mul _ _ szi szi, ?_⟩; refine K4 _ ?_; refine rgnX_take 1 fun _ K5 => ?_; simp (disch := omega) only [go_sem]; refine ⟨_, c_rational_reduce _ _ (by omega) (by first | assumption | omega), ?_⟩; refine K5 _ ?_; simp (disch := omega) only [go_sem]; refine K2 _ ?_; clear K5 K4 K3 K2; refine pwp_ret ?_; refine ⟨Or.inr rfl, ?_⟩; simp (disch := omega) only [go_sem]; rw [← mul_divInt a b, Int.natCast_mul]

end Go.Proofs.YtdojhoegildiaaaGreat

namespace Go.PL
open Go.RL

def perfB (z : Int) : Bool := decide (sqrtI z * sqrtI z = z)
instance SzI.sqrt {z : Int} {k : Nat} [h : SzI z k] : SzI (sqrtI z) k := by
  refine h.le_of ?_
  unfold sqrtI
  split
  · simp
  · simp only [Int.natAbs_natCast]
    have := Nat.sqrt_le z.natAbs
    rcases Nat.eq_zero_or_pos (Nat.sqrt z.natAbs) with q | q
    · omega
    · exact Nat.le_trans (Nat.le_mul_of_pos_left _ q) this
theorem perf_neg {z : Int} (h : z < 0) : perfB z = false := by
  simp only [perfB, sqrtI_neg h]; simp; omega
theorem perf_eq {z : Int} (h : sqrtI z * sqrtI z = z) : perfB z = true := by simp [perfB, h]
def sqB (q : Rat) : Bool := perfB q.num && perfB (q.den : Int)
def rtR (q : Rat) : Rat := Rat.divInt (sqrtI q.num) (sqrtI (q.den : Int))
theorem sqrtI_nonneg (z : Int) : 0 ≤ sqrtI z := by unfold sqrtI; split <;> omega
theorem sqB_pos {q : Rat} (h : sqB q = true) : 0 < sqrtI (q.den : Int) ∧ sqrtI q.num * sqrtI q.num = q.num ∧ sqrtI (q.den : Int) * sqrtI (q.den : Int) = (q.den : Int) := by
  simp only [sqB, perfB, Bool.and_eq_true, decide_eq_true_eq] at h
  obtain ⟨h1, h2⟩ := h
  refine ⟨?_, h1, h2⟩
  rcases Int.lt_or_le 0 (sqrtI (q.den : Int)) with c | c
  · exact c
  · exfalso
    have := sqrtI_nonneg (q.den : Int)
    have e : sqrtI (q.den : Int) = 0 := by omega
    rw [e] at h2
    have := den_ne q
    omega
theorem sgnI_eqz (x : Int) : (sgnI x = 0) = (x = 0) := by unfold sgnI; apply propext; split <;> (try split) <;> omega
theorem sgnI_lez (x : Int) : (sgnI x ≤ 0) = (x ≤ 0) := by unfold sgnI; apply propext; split <;> (try split) <;> omega
theorem sgnI_gtz (x : Int) : (0 < sgnI x) = (0 < x) := by unfold sgnI; apply propext; split <;> (try split) <;> omega
attribute [go_sem] sgnI_eqz sgnI_lez sgnI_gtz
theorem sqB_cop {q : Rat} (h : sqB q = true) : Nat.gcd (sqrtI q.num).natAbs (sqrtI (q.den : Int)).natAbs = 1 := by
  obtain ⟨h0, h1, h2⟩ := sqB_pos h
  have hr := q.reduced
  have e1 : (sqrtI q.num).natAbs ∣ q.num.natAbs := by
    conv => rhs; rw [← h1, Int.natAbs_mul]
    exact Nat.dvd_mul_right _ _
  have e2 : (sqrtI (q.den : Int)).natAbs ∣ q.den := by
    have : q.den = ((q.den : Int)).natAbs := by simp
    conv => rhs; rw [this, ← h2, Int.natAbs_mul]
    exact Nat.dvd_mul_right _ _
  have h3 : Nat.gcd (sqrtI q.num).natAbs (sqrtI (q.den : Int)).natAbs ∣ Nat.gcd q.num.natAbs q.den :=
    Nat.dvd_gcd (Nat.dvd_trans (Nat.gcd_dvd_left _ _) e1) (Nat.dvd_trans (Nat.gcd_dvd_right _ _) e2)
  rw [hr] at h3
  exact Nat.dvd_one.1 h3
theorem rtR_cells {q : Rat} (h : sqB q = true) : ratC (rtR q) = intC (sqrtI q.num) ++ intC (sqrtI (q.den : Int)) :=
  ratC_red1 (sqB_pos h).1 (by rw [sqB_cop h]; rfl)
theorem sq_nn (a : Int) : 0 ≤ a * a := by
  rcases Int.lt_or_le a 0 with h | h
  · have := Int.mul_pos_of_neg_of_neg h h; omega
  · exact Int.mul_nonneg h h
theorem sqB_of {q r : Rat} (h : r * r = q) : sqB q = true := by
  have hn : q.num = r.num * r.num ∧ q.den = r.den * r.den := by
    have hc : Nat.gcd (r.num * r.num).natAbs (r.den * r.den) = 1 := by
      rw [Int.natAbs_mul]
      exact Nat.Coprime.mul_left (Nat.Coprime.mul_right r.reduced r.reduced) (Nat.Coprime.mul_right r.reduced r.reduced)
    have e := mul_divInt r r
    rw [h] at e
    have hp : (0 : Int) < (r.den : Int) * (r.den : Int) := by
      have := r.den_pos
      have h1 : (0 : Int) < (r.den : Int) := by omega
      exact Int.mul_pos h1 h1
    obtain ⟨g1, g2⟩ := divInt_num (n := r.num * r.num) hp
    have e3 : ((r.den : Int) * (r.den : Int)).natAbs = r.den * r.den := by rw [Int.natAbs_mul]; simp
    rw [e, e3, hc] at g1 g2
    refine ⟨by simpa using g1, ?_⟩
    have : (q.den : Int) = (r.den : Int) * (r.den : Int) := by simpa using g2
    have h4 : ((r.den * r.den : Nat) : Int) = (r.den : Int) * (r.den : Int) := Int.natCast_mul _ _
    omega
  have sq : ∀ n : Nat, Nat.sqrt (n * n) = n := by
    intro n
    have s1 := Nat.sqrt_le (n * n)
    have s2 := Nat.lt_succ_sqrt (n * n)
    generalize Nat.sqrt (n * n) = s at *
    rcases Nat.lt_trichotomy s n with c | c | c
    · exfalso
      have := Nat.mul_le_mul (show s.succ ≤ n from c) (show s.succ ≤ n from c)
      omega
    · exact c
    · exfalso
      have h1 : (n + 1) * (n + 1) ≤ s * s := Nat.mul_le_mul c c
      have h2 : (n + 1) * (n + 1) = n * n + 2 * n + 1 := by grind
      omega
  unfold sqB
  rw [Bool.and_eq_true]
  refine ⟨perf_eq ?_, perf_eq ?_⟩
  · have h0 : 0 ≤ q.num := by rw [hn.1]; exact sq_nn r.num
    have e : q.num.natAbs = r.num.natAbs * r.num.natAbs := by rw [hn.1, Int.natAbs_mul]
    unfold sqrtI
    rw [if_neg (by omega), e, sq, hn.1]
    have : ((r.num.natAbs * r.num.natAbs : Nat) : Int) = r.num * r.num := by rw [← Int.natAbs_mul]; exact Int.natAbs_of_nonneg (sq_nn r.num)
    rw [← this, Int.natCast_mul]
  · rw [hn.2]
    unfold sqrtI
    rw [if_neg (by omega)]
    simp only [Int.natAbs_natCast]
    rw [sq, Int.natCast_mul]
instance SzR.rt {q : Rat} {k : Nat} [h : SzR q k] : SzR (rtR q) (k + 1) := by
  unfold rtR
  by_cases hz : sqrtI (q.den : Int) = 0
  · rw [hz]
    have : Rat.divInt (sqrtI q.num) 0 = 0 := by simp
    rw [this]
    refine SzR.mk' (BS_pos _) ?_
    have h1 : BS ^ 1 ≤ BS ^ (k + 1) := Nat.pow_le_pow_right (by decide) (by omega)
    have e : BS ^ 1 = 1000000000 := by decide
    have h4 : (0 : Rat).den = 1 := rfl
    omega
  · exact (divInt_size hz).mono (by omega)

def vldR (n1 : Bool) (l1 : List Nat) (n2 : Bool) (l2 : List Nat) : Bool := vldB n1 l1 && vldB n2 l2 && (!n2 && decide (l2 ≠ []) && decide (Nat.gcd (val l1) (val l2) = 1))
theorem gcd_len (x : Nat) {y : Nat} (h : 0 < y) : (limbs (Nat.gcd x y)).length ≤ (limbs y).length := limbs_len_mono (Nat.gcd_le_right _ h)
theorem fold4 (z1 z2 : Int) : [PC.bool (decide (z1 < 0)), lC (limbs z1.natAbs), PC.bool (decide (z2 < 0)), lC (limbs z2.natAbs)] = intC z1 ++ intC z2 := rfl
theorem vldR_f1 {n1 n2 : Bool} {l1 l2 : List Nat} (h : vldB n1 l1 = false) : vldR n1 l1 n2 l2 = false := by simp [vldR, h]
theorem vldR_f2 {n1 n2 : Bool} {l1 l2 : List Nat} (h : vldB n2 l2 = false) : vldR n1 l1 n2 l2 = false := by simp [vldR, h]
theorem vldR_le {z1 z2 : Int} (h : z2 ≤ 0) : vldR (decide (z1 < 0)) (limbs z1.natAbs) (decide (z2 < 0)) (limbs z2.natAbs) = false := by
  by_cases h0 : z2 = 0
  · subst h0; simp [vldR, limbs_zero]
  · have : z2 < 0 := by omega
    simp [vldR, this]
theorem vldR_pos {z1 z2 : Int} (h : 0 < z2) : vldR (decide (z1 < 0)) (limbs z1.natAbs) (decide (z2 < 0)) (limbs z2.natAbs) = decide (((Nat.gcd z1.natAbs z2.natAbs : Nat) : Int) = 1) := by
  have h1 : ¬ z2 < 0 := by omega
  have h2 : limbs z2.natAbs ≠ [] := fun e => by have := limbs_eq_nil.1 e; omega
  unfold vldR
  rw [vld_int, vld_int, limbs_val, limbs_val]
  simp [h1, h2]
  omega
theorem vldR_true {n1 n2 : Bool} {l1 l2 : List Nat} (h : vldR n1 l1 n2 l2 = true) : ∃ q : Rat, n1 = decide (q.num < 0) ∧ l1 = limbs q.num.natAbs ∧ n2 = decide ((q.den : Int) < 0) ∧ l2 = limbs ((q.den : Int)).natAbs := by
  have h0 := h
  simp only [vldR, Bool.and_eq_true] at h
  obtain ⟨⟨h1, h2⟩, _⟩ := h
  obtain ⟨z1, rfl, rfl⟩ := vld_true h1
  obtain ⟨z2, rfl, rfl⟩ := vld_true h2
  have hp : 0 < z2 := by
    rcases Int.lt_or_le 0 z2 with c | c
    · exact c
    · rw [vldR_le c] at h0; simp at h0
  rw [vldR_pos hp, decide_eq_true_eq] at h0
  obtain ⟨g1, g2⟩ := divInt_num (n := z1) hp
  rw [h0, Int.ediv_one] at g1 g2
  exact ⟨Rat.divInt z1 z2, by rw [g1], by rw [g1], by rw [g2], by rw [g2]⟩
theorem vldR_rat (q : Rat) : vldR (decide (q.num < 0)) (limbs q.num.natAbs) (decide ((q.den : Int) < 0)) (limbs ((q.den : Int)).natAbs) = true := by
  have := q.den_pos
  rw [vldR_pos (by omega), decide_eq_true_eq]
  have := q.reduced
  simp only [Int.natAbs_natCast]
  unfold Nat.Coprime at this
  omega
theorem sgnI_1 (x : Int) : (sgnI x = 1) = (0 < x) := by unfold sgnI; apply propext; split <;> (try split) <;> omega
def smlR (k : Nat) (n1 : Bool) (l1 : List Nat) (n2 : Bool) (l2 : List Nat) : Bool := decide (l1.length ≤ k) && decide (l2.length ≤ k) && vldR n1 l1 n2 l2
theorem smlR_true {k : Nat} {n1 n2 : Bool} {l1 l2 : List Nat} (h : smlR k n1 l1 n2 l2 = true) : ∃ q : Rat, SzR q k ∧ n1 = decide (q.num < 0) ∧ l1 = limbs q.num.natAbs ∧ n2 = decide ((q.den : Int) < 0) ∧ l2 = limbs ((q.den : Int)).natAbs := by
  simp only [smlR, Bool.and_eq_true, decide_eq_true_eq] at h
  obtain ⟨⟨h1, h2⟩, h3⟩ := h
  obtain ⟨q, rfl, rfl, rfl, rfl⟩ := vldR_true h3
  exact ⟨q, ⟨⟨h1⟩, ⟨h2⟩⟩, rfl, rfl, rfl, rfl⟩
theorem sqB_tt {q : Rat} (hs : sqB q = true) : perfB q.num = true ∧ perfB (q.den : Int) = true := by simpa [sqB] using hs
theorem sqB_tf {q : Rat} (hs : sqB q = false) (h : perfB q.num = true) : perfB (q.den : Int) = false := by simpa [sqB, h] using hs
end Go.PL

set_option linter.unusedSimpArgs false
set_option linter.unusedVariables false
set_option maxRecDepth 20000
namespace Go.Proofs.YtdojhoegildiaaaGreat
open Go Go.PL Go.RL
set_option maxHeartbeats 4000000 in
theorem c_rational_Div (a b : Rat) {k l : Nat} [SzR a k] [SzR b l] (hkl : k + l ≤ 100000) (hb0 : b ≠ 0) :
    Ret Tryz.prog 107 [.a (ratC a), .a (ratC b)] (.t [.a (ratC (a / b)), .c (.int .i64 0)]) := by
  refine ret_of_body (md := {}) Tryz.func107 (by kernel_rfl) rfl ?_; simp only [Tryz.f107, go_sem, Nat.reduceAdd, Nat.reduceSub, List.reduceReplicate]; have hda := a.den_pos; have hdb := b.den_pos; have hdab := Nat.mul_pos hda hdb; have hne := Int.mul_ne_zero (den_ne a) (num_ne hb0); refine pwx_sr 3 [] (by rfl) fun _ K1 => ?_; simp (disch := omega) only [go_sem]; refine K1 _ ?_; clear K1; refine pwp_seq ?_; refine pwx_sr 0 [] (by rfl) fun _ K2 => ?_; refine rgnX_take 2 fun _ K3 => ?_; simp (disch := omega) only [go_sem]; refine ⟨_, c_rational_Sign _, ?_⟩; refine K3 _ ?_; simp (disch := omega) only [go_sem]; refine K2 _ ?_; clear K3 K2; refine pwp_cond (b := false) (by rfl) (fun h => nomatch h) (fun _ => ?_); refine pwp_skip ?_; refine n_then ?_; refine pwx_sd Tryz.mixed 0 [] (by rfl) [] (by kernel_rfl) (by simp) fun _ K4 => ?_; refine rgnX_take 5 fun _ K5 => ?_; simp (disch := omega) only [go_sem]; refine ⟨_, c_integer_Mul _ _ szi szi, ?_⟩; refine K5 _ ?_; refine rgnX_take 5 fun _ K6 => ?_; simp (disch := omega) only [go_sem]; refine ⟨_, c_integer_Mul _ _ szi szi, ?_⟩; refine K6 _ ?_; refine rgnX_take 1 fun _ K7 => ?_; simp (disch := omega) only [go_sem]; refine ⟨_, c_rational_reduce _ _ (by omega) (by first | assumption | omega), ?_⟩; refine K7 _ ?_; simp (disch := omega) only [go_sem]; refine K4 _ ?_; clear K7 K6 K5 K4; refine pwp_ret ?_; refine ⟨Or.inr rfl, ?_⟩; simp (disch := omega) only [go_sem]
  all_goals rw [div_divInt a hb0]
set_option maxHeartbeats 4000000 in
theorem c_rational_Make (n d : Int) {k l : Nat} [hsn : SzI n k] [hsd : SzI d l] (hkl : k + l ≤ 400000) (hd : d ≠ 0) :
    Ret Tryz.prog 103 [.a (intC n), .a (intC d)] (.t [.a (ratC (Rat.divInt n d)), .c (.int .i64 0)]) := by
  refine ret_of_body (md := {}) Tryz.func103 (by kernel_rfl) rfl ?_; simp only [Tryz.f103, go_sem, Nat.reduceAdd, Nat.reduceSub, List.reduceReplicate]; refine pwx_sr 3 [] (by rfl) fun _ K1 => ?_; simp (disch := omega) only [go_sem]; refine K1 _ ?_; clear K1; refine pwp_seq ?_; refine pwx_sr 0 [] (by rfl) fun _ K2 => ?_; refine rgnX_take 2 fun _ K3 => ?_; simp (disch := omega) only [go_sem]; refine ⟨_, c_integer_Sign _, ?_⟩; refine K3 _ ?_; simp (disch := omega) only [go_sem]; refine K2 _ ?_; clear K3 K2; refine pwp_cond (b := false) (by rfl) (fun h => nomatch h) (fun _ => ?_); refine pwp_skip ?_; refine n_then ?_; refine pwx_sr 0 [] (by rfl) fun _ K4 => ?_; refine rgnX_take 3 fun _ K5 => ?_; simp (disch := omega) only [go_sem]; refine ⟨_, c_rational_reduce _ _ (by omega) (by first | assumption | omega), ?_⟩; refine K5 _ ?_; simp (disch := omega) only [go_sem]; refine K4 _ ?_; clear K5 K4; refine pwp_ret ?_; refine ⟨Or.inr rfl, ?_⟩; simp (disch := omega) only [go_sem]
set_option maxHeartbeats 4000000 in
theorem c_rational_Floor (q : Rat) {k : Nat} [hsq : SzR q k] (hk : k ≤ 300000) :
    Ret Tryz.prog 115 [.a (ratC q)] (.e (.a (intC q.floor))) := by
  refine ret_of_body (md := {}) Tryz.func115 (by kernel_rfl) rfl ?_; simp only [Tryz.f115, go_sem, Nat.reduceAdd, Nat.reduceSub, List.reduceReplicate]; have hdq := q.den_pos; refine pwx_sr 2 [] (by rfl) fun _ K1 => ?_; simp (disch := omega) only [go_sem]; refine K1 _ ?_; clear K1; refine pwx_sr 2 [] (by rfl) fun _ K2 => ?_; refine rgnX_take 5 fun _ K3 => ?_; simp (disch := omega) only [go_sem]; refine ⟨_, c_integer_DivMod _ _ szi szi (by first | assumption | omega), ?_⟩; refine K3 _ ?_; simp (disch := omega) only [go_sem]; refine K2 _ ?_; clear K3 K2; refine pwx_sr 0 [] (by rfl) fun _ K4 => ?_; simp (disch := omega) only [go_sem]; refine K4 _ ?_; clear K4; refine pwp_ret ?_; refine ⟨Or.inr rfl, ?_⟩; simp (disch := omega) only [go_sem]
  all_goals rw [Rat.floor_def]

end Go.Proofs.YtdojhoegildiaaaGreat

set_option linter.unusedSimpArgs false
set_option linter.unusedVariables false
set_option maxRecDepth 20000
namespace Go.Proofs.YtdojhoegildiaaaGreat
open Go Go.PL Go.RL
set_option maxHeartbeats 4000000 in
theorem c_swarfref02_unit :
    Ret Tryz.prog 65 [] (.e (.a (intC 1))) := by
  refine ret_of_body (md := {}) Tryz.func65 (by kernel_rfl) rfl ?_; simp only [Tryz.f65, go_sem, Nat.reduceAdd, Nat.reduceSub, List.reduceReplicate]; refine pwx_sr 1 [] (by rfl) fun _ K1 => ?_; simp (disch := omega) only [go_sem]; refine K1 _ ?_; clear K1; refine pwx_sr 0 [] (by rfl) fun _ K2 => ?_; refine rgnX_take 1 fun _ K3 => ?_; simp (disch := omega) only [go_sem]; refine ⟨_, c_swarfref01_FromInt64 _ (by omega) (by omega), ?_⟩; refine K3 _ ?_; simp (disch := omega) only [go_sem]; refine K2 _ ?_; clear K3 K2; refine pwp_ret ?_; refine ⟨Or.inr rfl, ?_⟩; simp (disch := omega) only [go_sem]
set_option maxHeartbeats 4000000 in
theorem c_swarfref02_FromInt64 (n : Int) (h0 : -9223372036854775808 ≤ n) (h1 : n < 9223372036854775808) :
    Ret Tryz.prog 46 [.c (.int .i64 n)] (.e (.a (ratC (n : Rat)))) := by
  refine ret_of_body (md := {}) Tryz.func46 (by kernel_rfl) rfl ?_; simp only [Tryz.f46, go_sem, Nat.reduceAdd, Nat.reduceSub, List.reduceReplicate]; refine pwx_sr 1 [] (by rfl) fun _ K1 => ?_; simp (disch := omega) only [go_sem]; refine K1 _ ?_; clear K1; refine pwx_sr 0 [] (by rfl) fun _ K2 => ?_; refine rgnX_take 2 fun _ K3 => ?_; simp (disch := omega) only [go_sem]; refine ⟨_, c_swarfref01_FromInt64 _ (by omega) (by omega), ?_⟩; refine K3 _ ?_; refine rgnX_take 1 fun _ K4 => ?_; simp (disch := omega) only [go_sem]; refine ⟨_, c_swarfref02_unit, ?_⟩; refine K4 _ ?_; simp (disch := omega) only [go_sem]; refine K2 _ ?_; clear K4 K3 K2; refine pwp_ret ?_; refine ⟨Or.inr rfl, ?_⟩; simp (disch := omega) only [go_sem]
  all_goals rw [ratC_int]
set_option maxHeartbeats 4000000 in
theorem c_swarfref02_Of (n d : Int) {k l : Nat} [hsn : SzI n k] [hsd : SzI d l] (hkl : k + l ≤ 400000) (hd : d ≠ 0) :
    Ret Tryz.prog 47 [.a (intC n), .a (intC d)] (.e (.a (ratC (Rat.divInt n d)))) := by
  refine ret_of_body (md := {}) Tryz.func47 (by kernel_rfl) rfl ?_; simp only [Tryz.f47, go_sem, Nat.reduceAdd, Nat.reduceSub, List.reduceReplicate]; refine pwx_sr 3 [] (by rfl) fun _ K1 => ?_; simp (disch := omega) only [go_sem]; refine K1 _ ?_; clear K1; refine pwp_join (false :: false :: true :: true :: true :: false :: false :: false :: false :: false :: false :: false :: false :: false :: false :: false :: false :: false :: false :: false :: false :: false :: false :: false :: false :: false :: false :: false :: false :: false :: false :: false :: false :: false :: false :: false :: false :: false :: false :: []) 3 (fun s => ∃ n' : Int, ∃ d' : Int, (SzI n' k) ∧ (SzI d' l) ∧ (0 < d') ∧ (Rat.divInt n' d' = Rat.divInt n d) ∧ s = { slots := .j :: .j :: .e (.c (.ptr 0 0)) :: .e (.c (.ptr 1 0)) :: .e (.c (.ptr 2 0)) :: .j :: .j :: .j :: .j :: .j :: .j :: .j :: .j :: .j :: .j :: .j :: .j :: .j :: .j :: .j :: .j :: .j :: .j :: .j :: .j :: .j :: .j :: .j :: .j :: .j :: .j :: .j :: .j :: .j :: .j :: .j :: .j :: .j :: .j :: [], st := [.live (intC n'), .live (intC d'), .live [.bool false, .nils, .bool false, .nils]] }) rfl ?_ ?_
  · refine pwx_sr 0 [] (by rfl) fun _ K2 => ?_; refine rgnX_take 2 fun _ K3 => ?_; simp (disch := omega) only [go_sem]; refine ⟨_, c_swarfref01_Sign _, ?_⟩; refine K3 _ ?_; simp (disch := omega) only [go_sem]; refine K2 _ ?_; clear K3 K2; refine pwp_cond (b := _) (by rfl) (fun hb0 => ?_) (fun hb0 => ?_)
    · first | replace hb0 := of_decide_eq_true hb0 | skip
      refine pwx_draw Tryz.mixed 0 [] (by rfl) [] (by kernel_rfl) (by simp) fun _ K4 => ?_; refine rgnX_take 2 fun _ K5 => ?_; simp (disch := omega) only [go_sem]; refine ⟨_, c_swarfref01_Neg _ szi, ?_⟩; refine K5 _ ?_; refine rgnX_take 2 fun _ K6 => ?_; simp (disch := omega) only [go_sem]; refine ⟨_, c_swarfref01_Neg _ szi, ?_⟩; refine K6 _ ?_; simp (disch := omega) only [go_sem]; refine K4 _ ?_; clear K6 K5 K4; refine n_then ?_; refine ⟨⟨-n, -d, ?hf0, ?hf1, ?hf2, ?hf3, ?heq⟩, ?hok⟩
      case heq => first | rfl | simp [St.cut, keep]
      case hf0 => infer_instance
      case hf1 => infer_instance
      case hf2 => omega
      case hf3 => exact divInt_neg' n d hd
      case hok => refine ⟨rfl, ?_, ?_⟩ <;> first | rfl | (simp [keep, PV.lt, PE.lt, PC.lt, Box.lt, ↓lC_lt]; done) | simp [keep, PV.lt, PE.lt, PC.lt, Box.lt, ↓lC_lt, ↓intC_lt, ↓ratC_lt, ↓u32s_lt]
    · first | replace hb0 := of_decide_eq_false hb0 | skip
      refine pwp_skip ?_; refine n_then ?_; refine ⟨⟨n, d, ?hf0, ?hf1, ?hf2, ?hf3, ?heq⟩, ?hok⟩
      case heq => first | rfl | simp [St.cut, keep]
      case hf0 => assumption
      case hf1 => assumption
      case hf2 => omega
      case hf3 => rfl
      case hok => refine ⟨rfl, ?_, ?_⟩ <;> first | rfl | (simp [keep, PV.lt, PE.lt, PC.lt, Box.lt, ↓lC_lt]; done) | simp [keep, PV.lt, PE.lt, PC.lt, Box.lt, ↓lC_lt, ↓intC_lt, ↓ratC_lt, ↓u32s_lt]
  · rintro _ ⟨n', d', hn1, hd1, hd0, hdd, rfl⟩
    have hg0 : 0 < ((Nat.gcd n'.natAbs d'.natAbs : Nat) : Int) := by have := Nat.gcd_pos_of_pos_right n'.natAbs (show 0 < d'.natAbs by omega); omega
    rw [← hdd]; refine pwx_sr 1 [] (by rfl) fun _ K7 => ?_; refine rgnX_take 3 fun _ K8 => ?_; simp (disch := omega) only [go_sem]; refine ⟨_, c_swarfref01_GCD _ _ szi szi, ?_⟩; refine K8 _ ?_; simp (disch := omega) only [go_sem]; refine K7 _ ?_; clear K8 K7; refine pwx_sr 2 [] (by rfl) fun _ K9 => ?_; refine rgnX_take 3 fun _ K10 => ?_; simp (disch := omega) only [go_sem]; refine ⟨_, c_swarfref01_DivMod _ _ szi szi (by first | assumption | omega), ?_⟩; refine K10 _ ?_; simp (disch := omega) only [go_sem]; refine K9 _ ?_; clear K10 K9; refine pwx_sr 2 [] (by rfl) fun _ K11 => ?_; refine rgnX_take 3 fun _ K12 => ?_; simp (disch := omega) only [go_sem]; refine ⟨_, c_swarfref01_DivMod _ _ szi szi (by first | assumption | omega), ?_⟩; refine K12 _ ?_; simp (disch := omega) only [go_sem]; refine K11 _ ?_; clear K12 K11; refine pwx_sr 0 [] (by rfl) fun _ K13 => ?_; simp (disch := omega) only [go_sem]; refine K13 _ ?_; clear K13; refine pwp_ret ?_; refine ⟨Or.inr rfl, ?_⟩; simp (disch := omega) only [go_sem]
    all_goals rw [ratC_red hd0]
set_option maxHeartbeats 4000000 in
theorem c_swarfref02_Frac (n d : Int) (h0 : -9223372036854775808 ≤ n) (h1 : n < 9223372036854775808) (h2 : -9223372036854775808 ≤ d) (h3 : d < 9223372036854775808) (hd : d ≠ 0) :
    Ret Tryz.prog 36 [.c (.int .i64 n), .c (.int .i64 d)] (.e (.a (ratC (Rat.divInt n d)))) := by
  refine ret_of_body (md := {}) Tryz.func36 (by kernel_rfl) rfl ?_; simp only [Tryz.f36, go_sem, Nat.reduceAdd, Nat.reduceSub, List.reduceReplicate]; haveI : SzI n 3 := szi_lit (by show n.natAbs < 1000000000000000000000000000; omega); haveI : SzI d 3 := szi_lit (by show d.natAbs < 1000000000000000000000000000; omega); refine pwx_sr 1 [] (by rfl) fun _ K1 => ?_; simp (disch := omega) only [go_sem]; refine K1 _ ?_; clear K1; refine pwp_seq ?_; refine pwx_sr 0 [] (by rfl) fun _ K2 => ?_; simp (disch := omega) only [go_sem]; refine K2 _ ?_; clear K2; refine pwp_cond (b := false) (by rfl) (fun h => nomatch h) (fun _ => ?_); refine pwp_skip ?_; refine n_then ?_; refine pwx_sr 0 [] (by rfl) fun _ K3 => ?_; refine rgnX_take 2 fun _ K4 => ?_; simp (disch := omega) only [go_sem]; refine ⟨_, c_swarfref01_FromInt64 _ (by omega) (by omega), ?_⟩; refine K4 _ ?_; refine rgnX_take 2 fun _ K5 => ?_; simp (disch := omega) only [go_sem]; refine ⟨_, c_swarfref01_FromInt64 _ (by omega) (by omega), ?_⟩; refine K5 _ ?_; refine rgnX_take 1 fun _ K6 => ?_; simp (disch := omega) only [go_sem]; refine ⟨_, c_swarfref02_Of _ _ (by omega) (by first | assumption | omega), ?_⟩; refine K6 _ ?_; simp (disch := omega) only [go_sem]; refine K3 _ ?_; clear K6 K5 K4 K3; refine pwp_ret ?_; refine ⟨Or.inr rfl, ?_⟩; simp (disch := omega) only [go_sem]
set_option maxHeartbeats 4000000 in
theorem c_swarfref02_Sign (a : Rat) :
    Ret Tryz.prog 20 [.a (ratC a)] (.e (.c (.int .i64 (sgnQ a)))) := by
  refine ret_of_body (md := {}) Tryz.func20 (by kernel_rfl) rfl ?_; simp only [Tryz.f20, go_sem, Nat.reduceAdd, Nat.reduceSub, List.reduceReplicate]; refine pwx_sr 1 [] (by rfl) fun _ K1 => ?_; simp (disch := omega) only [go_sem]; refine K1 _ ?_; clear K1; refine pwx_sr 0 [] (by rfl) fun _ K2 => ?_; refine rgnX_take 3 fun _ K3 => ?_; simp (disch := omega) only [go_sem]; refine ⟨_, c_swarfref01_Sign _, ?_⟩; refine K3 _ ?_; simp (disch := omega) only [go_sem]; refine K2 _ ?_; clear K3 K2; refine pwp_ret ?_; refine ⟨Or.inr rfl, ?_⟩; simp (disch := omega) only [go_sem]
  all_goals rw [sgnI_num]
set_option maxHeartbeats 4000000 in
theorem c_swarfref02_Cmp (a b : Rat) {k l : Nat} [SzR a k] [SzR b l] (hkl : k + l ≤ 150000) :
    Ret Tryz.prog 88 [.a (ratC a), .a (ratC b)] (.e (.c (.int .i64 (cmpQ a b)))) := by
  refine ret_of_body (md := {}) Tryz.func88 (by kernel_rfl) rfl ?_; simp only [Tryz.f88, go_sem, Nat.reduceAdd, Nat.reduceSub, List.reduceReplicate]; refine pwx_sr 2 [] (by rfl) fun _ K1 => ?_; simp (disch := omega) only [go_sem]; refine K1 _ ?_; clear K1; refine pwx_sd Tryz.mixed 0 [] (by rfl) [] (by kernel_rfl) (by simp) fun _ K2 => ?_; refine rgnX_take 5 fun _ K3 => ?_; simp (disch := omega) only [go_sem]; refine ⟨_, c_swarfref01_Mul _ _ szi szi, ?_⟩; refine K3 _ ?_; refine rgnX_take 5 fun _ K4 => ?_; simp (disch := omega) only [go_sem]; refine ⟨_, c_swarfref01_Mul _ _ szi szi, ?_⟩; refine K4 _ ?_; refine rgnX_take 1 fun _ K5 => ?_; simp (disch := omega) only [go_sem]; refine ⟨_, c_swarfref01_Cmp _ _ szi szi, ?_⟩; refine K5 _ ?_; simp (disch := omega) only [go_sem]; refine K2 _ ?_; clear K5 K4 K3 K2; refine pwp_ret ?_; refine ⟨Or.inr rfl, ?_⟩; simp (disch := omega) only [go_sem]
  all_goals rw [cmpI_cross]
set_option maxHeartbeats 4000000 in
theorem c_swarfref02_Neg (a : Rat) {k : Nat} [SzR a k] (hk : k ≤ 800000) :
    Ret Tryz.prog 16 [.a (ratC a)] (.e (.a (ratC (-a)))) := by
  refine ret_of_body (md := {}) Tryz.func16 (by kernel_rfl) rfl ?_; simp only [Tryz.f16, go_sem, Nat.reduceAdd, Nat.reduceSub, List.reduceReplicate]; refine pwx_sr 2 [] (by rfl) fun _ K1 => ?_; simp (disch := omega) only [go_sem]; refine K1 _ ?_; clear K1; refine pwx_sd Tryz.mixed 0 [] (by rfl) [] (by kernel_rfl) (by simp) fun _ K2 => ?_; refine rgnX_take 3 fun _ K3 => ?_; simp (disch := omega) only [go_sem]; refine ⟨_, c_swarfref01_Neg _ szi, ?_⟩; refine K3 _ ?_; simp (disch := omega) only [go_sem]; refine K2 _ ?_; clear K3 K2; refine pwp_ret ?_; refine ⟨Or.inr rfl, ?_⟩; simp (disch := omega) only [go_sem]
  all_goals rw [ratC_neg]
set_option maxHeartbeats 4000000 in
theorem c_swarfref02_Add (a b : Rat) {k l : Nat} [SzR a k] [SzR b l] (hkl : k + l ≤ 150000) :
    Ret Tryz.prog 19 [.a (ratC a), .a (ratC b)] (.e (.a (ratC (a + b)))) := by
  refine ret_of_body (md := {}) Tryz.func19 (by kernel_rfl) rfl ?_; simp only [Tryz.f19, go_sem, Nat.reduceAdd, Nat.reduceSub, List.reduceReplicate]; have hda := a.den_pos; have hdb := b.den_pos; have hdab := Nat.mul_pos hda hdb; refine pwx_sr 3 [] (by rfl) fun _ K1 => ?_; simp (disch := omega) only [go_sem]; refine K1 _ ?_; clear K1; refine pwx_sr 1 [] (by rfl) fun _ K2 => ?_; refine rgnX_take 5 fun _ K3 => ?_; simp (disch := omega) only [go_sem]; refine ⟨_, c_swarfref01_Mul _ _ szi szi, ?_⟩; refine K3 _ ?_; simp (disch := omega) only [go_sem]; refine K2 _ ?_; clear K3 K2; refine pwx_sr 1 [] (by rfl) fun _ K4 => ?_; refine rgnX_take 5 fun _ K5 => ?_; simp (disch := omega) only [go_sem]; refine ⟨_, c_swarfref01_Mul _ _ szi szi, ?_⟩; refine K5 _ ?_; simp (disch := omega) only [go_sem]; refine K4 _ ?_; clear K5 K4; refine pwx_sd Tryz.mixed 0 [] (by rfl) [] (by kernel_rfl) (by simp) fun _ K6 => ?_; refine rgnX_take 3 fun _ K7 => ?_; simp (disch := omega) only [go_sem]; refine ⟨_, c_swarfref01_Add _ _ szi szi, ?_⟩; refine K7 _ ?_; refine rgnX_take 5 fun _ K8 => ?_; simp (disch := omega) only [go_sem]; refine ⟨_, c_swarfref01_Mul _ _ szi szi, ?_⟩; refine K8 _ ?_; refine rgnX_take 1 fun _ K9 => ?_; simp (disch := omega) only [go_sem]; refine ⟨_, c_swarfref02_Of _ _ (by omega) (by first | assumption | omega), ?_⟩; refine K9 _ ?_; simp (disch := omega) only [go_sem]; refine K6 _ ?_; clear K9 K8 K7 K6; refine pwp_ret ?_; refine ⟨Or.inr rfl, ?_⟩; simp (disch := omega) only [go_sem]
  all_goals rw [← add_divInt a b, Int.natCast_mul]
set_option maxHeartbeats 4000000 in
theorem c_swarfref02_Sub (a b : Rat) {k l : Nat} [SzR a k] [SzR b l] (hkl : k + l ≤ 150000) :
    Ret Tryz.prog 30 [.a (ratC a), .a (ratC b)] (.e (.a (ratC (a - b)))) := by
  refine ret_of_body (md := {}) Tryz.func30 (by kernel_rfl) rfl ?_; simp only [Tryz.f30, go_sem, Nat.reduceAdd, Nat.reduceSub, List.reduceReplicate]; refine pwx_sr 3 [] (by rfl) fun _ K1 => ?_; simp (disch := omega) only [go_sem]; refine K1 _ ?_; clear K1; refine pwx_sd Tryz.mixed 0 [] (by rfl) [] (by kernel_rfl) (by simp) fun _ K2 => ?_; refine rgnX_take 3 fun _ K3 => ?_; simp (disch := omega) only [go_sem]; refine ⟨_, c_swarfref02_Neg _ (by omega), ?_⟩; refine K3 _ ?_; refine rgnX_take 1 fun _ K4 => ?_; simp (disch := omega) only [go_sem]; refine ⟨_, c_swarfref02_Add _ _ (by omega), ?_⟩; refine K4 _ ?_; simp (disch := omega) only [go_sem]; refine K2 _ ?_; clear K4 K3 K2; refine pwp_ret ?_; refine ⟨Or.inr rfl, ?_⟩; simp (disch := omega) only [go_sem]; rw [Rat.sub_eq_add_neg]
set_option maxHeartbeats 4000000 in
theorem c_swarfref02_Mul (a b : Rat) {k l : Nat} [SzR a k] [SzR b l] (hkl : k + l ≤ 150000) :
    Ret Tryz.prog 15 [.a (ratC a), .a (ratC b)] (.e (.a (ratC (a * b)))) := by
  refine ret_of_body (md := {}) Tryz.func15 (by kernel_rfl) rfl ?_; simp only [Tryz.f15, go_sem, Nat.reduceAdd, Nat.reduceSub, List.reduceReplicate]; have hda := a.den_pos; have hdb := b.den_pos; have hdab := Nat.mul_pos hda hdb; refine pwx_sr 3 [] (by rfl) fun _ K1 => ?_; simp (disch := omega) only [go_sem]; refine K1 _ ?_; clear K1; refine pwx_sd Tryz.mixed 0 [] (by rfl) [] (by kernel_rfl) (by simp) fun _ K2 => ?_; refine rgnX_take 5 fun _ K3 => ?_; simp (disch := omega) only [go_sem]; refine ⟨_, c_swarfref01_Mul _ _ szi szi, ?_⟩; refine K3 _ ?_; refine rgnX_take 5 fun _ K4 => ?_; simp (disch := omega) only [go_sem]; refine ⟨_, c_swarfref01_Mul _ _ szi szi, ?_⟩; refine K4 _ ?_; refine rgnX_take 1 fun _ K5 => ?_; simp (disch := omega) only [go_sem]; refine ⟨_, c_swarfref02_Of _ _ (by omega) (by first | assumption | omega), ?_⟩; refine K5 _ ?_; simp (disch := omega) only [go_sem]; refine K2 _ ?_; clear K5 K4 K3 K2; refine pwp_ret ?_; refine ⟨Or.inr rfl, ?_⟩; simp (disch := omega) only [go_sem]; rw [← mul_divInt a b, Int.natCast_mul]
set_option maxHeartbeats 4000000 in
theorem c_swarfref02_Same4 (n1 d1 n2 d2 : Int) {k1 k2 k3 k4 : Nat} [SzI n1 k1] [SzI d1 k2] [SzI n2 k3] [SzI d2 k4] (hk : k1 + k2 + k3 + k4 ≤ 1000000) :
    Ret Tryz.prog 27 [.a (intC n1 ++ intC d1), .a (intC n2 ++ intC d2)] (.e (.c (.bool (decide (n1 = n2) && decide (d1 = d2))))) := by
  refine ret_of_body (md := {}) Tryz.func27 (by kernel_rfl) rfl ?_; simp only [Tryz.f27, go_sem, Nat.reduceAdd, Nat.reduceSub, List.reduceReplicate]; refine pwx_sr 2 [] (by rfl) fun _ K1 => ?_; simp (disch := omega) only [go_sem]; refine K1 _ ?_; clear K1; by_cases hs : n1 = n2
  · have hs := decide_eq_true hs; refine pwx_sr 0 [some 5, some 6, some 7, some 8, some 9, some 10, some 11, some 12, some 13, some 14, some 15, some 16, some 4] (by rfl) fun _ K2 => ?_; refine rgnX_take 5 fun _ K3 => ?_; simp (disch := omega) only [go_sem, hs]; refine ⟨_, c_swarfref01_Same _ _ szi szi, ?_⟩; refine K3 _ ?_; refine rgnX_take 6 fun _ K4 => ?_; simp (disch := omega) only [go_sem, hs]
    first | refine ⟨_, c_swarfref01_Same _ _ szi szi, ?_⟩ | skip
    refine K4 _ ?_; simp (disch := omega) only [go_sem, hs]; refine K2 _ ?_; clear K4 K3 K2; refine pwp_ret ?_; refine ⟨Or.inr rfl, ?_⟩; simp (disch := omega) only [go_sem]
    all_goals simp [hs]
  · have hs := decide_eq_false hs; refine pwx_sr 0 [some 5, some 6, some 7, some 8, some 9, some 10, some 11, some 12, some 13, some 14, some 15, some 16, some 4] (by rfl) fun _ K5 => ?_; refine rgnX_take 5 fun _ K6 => ?_; simp (disch := omega) only [go_sem, hs]; refine ⟨_, c_swarfref01_Same _ _ szi szi, ?_⟩; refine K6 _ ?_; refine rgnX_take 6 fun _ K7 => ?_; simp (disch := omega) only [go_sem, hs]
    first | refine ⟨_, c_swarfref01_Same _ _ szi szi, ?_⟩ | skip
    refine K7 _ ?_; simp (disch := omega) only [go_sem, hs]; refine K5 _ ?_; clear K7 K6 K5; refine pwp_ret ?_; refine ⟨Or.inr rfl, ?_⟩; simp (disch := omega) only [go_sem]
    all_goals simp [hs]
set_option maxHeartbeats 4000000 in
theorem c_swarfref02_perfect (z : Int) {k : Nat} [hsz : SzI z k] (hk : k ≤ 300000) :
    Ret Tryz.prog 92 [.a (intC z)] (.t [.a (intC (sqrtI z)), .c (.bool (perfB z))]) := by
  refine ret_of_body (md := {}) Tryz.func92 (by kernel_rfl) rfl ?_; simp only [Tryz.f92, go_sem, Nat.reduceAdd, Nat.reduceSub, List.reduceReplicate]; refine pwx_sr 2 [] (by rfl) fun _ K1 => ?_; simp (disch := omega) only [go_sem]; refine K1 _ ?_; clear K1; refine pwx_sr 1 [] (by rfl) fun _ K2 => ?_; refine rgnX_take 2 fun _ K3 => ?_; simp (disch := omega) only [go_sem]; refine ⟨_, c_swarfref01_Sqrt _ szi9, ?_⟩; refine K3 _ ?_; simp (disch := omega) only [go_sem]; refine K2 _ ?_; clear K3 K2; by_cases hz0 : z < 0
  · refine pwx_sd Tryz.mixed 0 [some 11, some 12, some 13, some 14, some 15, some 16, some 17, some 18, some 19, some 20, none, some 3] (by rfl) [] (by kernel_rfl) (by simp) fun _ K4 => ?_; refine rgnX_take 7 fun _ K5 => ?_; simp (disch := omega) only [go_sem]
    first | refine ⟨_, c_swarfref01_Mul _ _ szi szi, ?_⟩ | skip
    refine K5 _ ?_; refine rgnX_take 2 fun _ K6 => ?_; simp (disch := omega) only [go_sem]
    first | refine ⟨_, c_swarfref01_Same _ _ szi szi, ?_⟩ | skip
    refine K6 _ ?_; simp (disch := omega) only [go_sem]; refine K4 _ ?_; clear K6 K5 K4; refine pwp_ret ?_; refine ⟨Or.inr rfl, ?_⟩; simp (disch := omega) only [go_sem]
    all_goals exact perf_neg hz0
  · refine pwx_sd Tryz.mixed 0 [some 11, some 12, some 13, some 14, some 15, some 16, some 17, some 18, some 19, some 20, none, some 3] (by rfl) [] (by kernel_rfl) (by simp) fun _ K7 => ?_; refine rgnX_take 7 fun _ K8 => ?_; simp (disch := omega) only [go_sem]
    first | refine ⟨_, c_swarfref01_Mul _ _ szi szi, ?_⟩ | skip
    refine K8 _ ?_; refine rgnX_take 2 fun _ K9 => ?_; simp (disch := omega) only [go_sem]
    first | refine ⟨_, c_swarfref01_Same _ _ szi szi, ?_⟩ | skip
    refine K9 _ ?_; simp (disch := omega) only [go_sem]; refine K7 _ ?_; clear K9 K8 K7; refine pwp_ret ?_; refine ⟨Or.inr rfl, ?_⟩; simp (disch := omega) only [go_sem]
    all_goals rfl
set_option maxHeartbeats 4000000 in
theorem c_swarfref02_Sqrt_t (q : Rat) {k : Nat} [hsq : SzR q k] (hk : k ≤ 300000) (hs : sqB q = true) :
    Ret Tryz.prog 50 [.a (ratC q)] (.t [.a (ratC (rtR q)), .c (.bool true)]) := by
  refine ret_of_body (md := {}) Tryz.func50 (by kernel_rfl) rfl ?_; simp only [Tryz.f50, go_sem, Nat.reduceAdd, Nat.reduceSub, List.reduceReplicate]; obtain ⟨hp1, hp2⟩ := sqB_tt hs; refine pwx_sr 2 [] (by rfl) fun _ K1 => ?_; simp (disch := omega) only [go_sem]; refine K1 _ ?_; clear K1; refine pwx_sr 1 [] (by rfl) fun _ K2 => ?_; refine rgnX_take 3 fun _ K3 => ?_; simp (disch := omega) only [go_sem]; refine ⟨_, c_swarfref02_perfect _ (by omega), ?_⟩; refine K3 _ ?_; simp (disch := omega) only [go_sem]; refine K2 _ ?_; clear K3 K2; refine pwx_sr 1 [] (by rfl) fun _ K4 => ?_; refine rgnX_take 3 fun _ K5 => ?_; simp (disch := omega) only [go_sem]; refine ⟨_, c_swarfref02_perfect _ (by omega), ?_⟩; refine K5 _ ?_; simp (disch := omega) only [go_sem]; refine K4 _ ?_; clear K5 K4; refine pwp_seq ?_; refine pwx_sr 0 [some 20, some 21, some 22, some 23, some 24, some 25] (by rfl) fun _ K6 => ?_; simp (disch := omega) only [go_sem, hp1, hp2]; refine K6 _ ?_; clear K6; refine pwp_cond (b := false) (by rfl) (fun h => nomatch h) (fun _ => ?_); refine pwp_skip ?_; refine n_then ?_; refine pwx_sr 0 [] (by rfl) fun _ K7 => ?_; simp (disch := omega) only [go_sem]; refine K7 _ ?_; clear K7; refine pwp_ret ?_; refine ⟨Or.inr rfl, ?_⟩; simp (disch := omega) only [go_sem]
  all_goals rw [rtR_cells hs]
set_option maxHeartbeats 4000000 in
theorem c_swarfref02_Sqrt_f (q : Rat) {k : Nat} [hsq : SzR q k] (hk : k ≤ 300000) (hs : sqB q = false) :
    Ret Tryz.prog 50 [.a (ratC q)] (.t [.a zratC, .c (.bool false)]) := by
  refine ret_of_body (md := {}) Tryz.func50 (by kernel_rfl) rfl ?_; simp only [Tryz.f50, go_sem, Nat.reduceAdd, Nat.reduceSub, List.reduceReplicate]; refine pwx_sr 2 [] (by rfl) fun _ K1 => ?_; simp (disch := omega) only [go_sem]; refine K1 _ ?_; clear K1; refine pwx_sr 1 [] (by rfl) fun _ K2 => ?_; refine rgnX_take 3 fun _ K3 => ?_; simp (disch := omega) only [go_sem]; refine ⟨_, c_swarfref02_perfect _ (by omega), ?_⟩; refine K3 _ ?_; simp (disch := omega) only [go_sem]; refine K2 _ ?_; clear K3 K2; refine pwx_sr 1 [] (by rfl) fun _ K4 => ?_; refine rgnX_take 3 fun _ K5 => ?_; simp (disch := omega) only [go_sem]; refine ⟨_, c_swarfref02_perfect _ (by omega), ?_⟩; refine K5 _ ?_; simp (disch := omega) only [go_sem]; refine K4 _ ?_; clear K5 K4; refine pwp_seq ?_
  rcases hp1 : perfB q.num with _ | _
  · refine pwx_sr 0 [some 20, some 21, some 22, some 23, some 24, some 25] (by rfl) fun _ K6 => ?_; simp (disch := omega) only [go_sem, hp1]; refine K6 _ ?_; clear K6; refine pwp_cond (b := true) (by rfl) (fun _ => ?_) (fun h => nomatch h); refine pwx_sr 0 [] (by rfl) fun _ K7 => ?_; simp (disch := omega) only [go_sem]; refine K7 _ ?_; clear K7; refine pwp_ret ?_; refine r_then ?_; refine ⟨Or.inr rfl, ?_⟩; simp (disch := omega) only [go_sem]
    all_goals rfl
  · have hp2 := sqB_tf hs hp1; refine pwx_sr 0 [some 20, some 21, some 22, some 23, some 24, some 25] (by rfl) fun _ K8 => ?_; simp (disch := omega) only [go_sem, hp1, hp2]; refine K8 _ ?_; clear K8; refine pwp_cond (b := true) (by rfl) (fun _ => ?_) (fun h => nomatch h); refine pwx_sr 0 [] (by rfl) fun _ K9 => ?_; simp (disch := omega) only [go_sem]; refine K9 _ ?_; clear K9; refine pwp_ret ?_; refine r_then ?_; refine ⟨Or.inr rfl, ?_⟩; simp (disch := omega) only [go_sem]
    all_goals rfl
set_option maxHeartbeats 4000000 in
theorem c_swarfref02_Valid (n1 n2 : Bool) (l1 l2 : List Nat) (hl1 : l1.length ≤ 1000000) (hl2 : l2.length ≤ 1000000) :
    Ret Tryz.prog 25 [.a [.bool n1, lC l1, .bool n2, lC l2]] (.e (.c (.bool (vldR n1 l1 n2 l2)))) := by
  refine ret_of_body (md := {}) Tryz.func25 (by kernel_rfl) rfl ?_; simp only [Tryz.f25, go_sem, Nat.reduceAdd, Nat.reduceSub, List.reduceReplicate]; refine pwx_sr 1 [] (by rfl) fun _ K1 => ?_; simp (disch := omega) only [go_sem]; refine K1 _ ?_; clear K1; refine pwp_seq ?_
  rcases hv1 : vldB n1 l1 with _ | _ <;> rcases hv2 : vldB n2 l2 with _ | _
  · refine pwx_sr 0 [some 3, some 4, some 5, some 6, some 7, some 8, some 9, some 10, some 11, some 12, some 13, some 14, some 15, some 16, some 17, some 18] (by rfl) fun _ K2 => ?_; refine rgnX_take 3 fun _ K3 => ?_; simp (disch := omega) only [go_sem, hv1, hv2, sgnI_1]; refine ⟨_, c_swarfref01_Valid _ _ (by omega), ?_⟩; refine K3 _ ?_; refine rgnX_take 5 fun _ K4 => ?_; simp (disch := omega) only [go_sem, hv1, hv2, sgnI_1]
    first | refine ⟨_, c_swarfref01_Valid _ _ (by omega), ?_⟩ | skip
    refine K4 _ ?_; refine rgnX_take 6 fun _ K5 => ?_; simp (disch := omega) only [go_sem, hv1, hv2, sgnI_1]
    first | refine ⟨_, c_swarfref01_Sign _, ?_⟩ | skip
    refine K5 _ ?_; simp (disch := omega) only [go_sem, hv1, hv2, sgnI_1]; refine K2 _ ?_; clear K5 K4 K3 K2; refine pwp_cond (b := true) (by rfl) (fun _ => ?_) (fun h => nomatch h); refine pwx_sr 0 [] (by rfl) fun _ K6 => ?_; simp (disch := omega) only [go_sem]; refine K6 _ ?_; clear K6; refine pwp_ret ?_; refine r_then ?_; refine ⟨Or.inr rfl, ?_⟩; simp (disch := omega) only [go_sem]; rw [vldR_f1 hv1]
  · refine pwx_sr 0 [some 3, some 4, some 5, some 6, some 7, some 8, some 9, some 10, some 11, some 12, some 13, some 14, some 15, some 16, some 17, some 18] (by rfl) fun _ K7 => ?_; refine rgnX_take 3 fun _ K8 => ?_; simp (disch := omega) only [go_sem, hv1, hv2, sgnI_1]; refine ⟨_, c_swarfref01_Valid _ _ (by omega), ?_⟩; refine K8 _ ?_; refine rgnX_take 5 fun _ K9 => ?_; simp (disch := omega) only [go_sem, hv1, hv2, sgnI_1]
    first | refine ⟨_, c_swarfref01_Valid _ _ (by omega), ?_⟩ | skip
    refine K9 _ ?_; refine rgnX_take 6 fun _ K10 => ?_; simp (disch := omega) only [go_sem, hv1, hv2, sgnI_1]
    first | refine ⟨_, c_swarfref01_Sign _, ?_⟩ | skip
    refine K10 _ ?_; simp (disch := omega) only [go_sem, hv1, hv2, sgnI_1]; refine K7 _ ?_; clear K10 K9 K8 K7; refine pwp_cond (b := true) (by rfl) (fun _ => ?_) (fun h => nomatch h); refine pwx_sr 0 [] (by rfl) fun _ K11 => ?_; simp (disch := omega) only [go_sem]; refine K11 _ ?_; clear K11; refine pwp_ret ?_; refine r_then ?_; refine ⟨Or.inr rfl, ?_⟩; simp (disch := omega) only [go_sem]; rw [vldR_f1 hv1]
  · refine pwx_sr 0 [some 3, some 4, some 5, some 6, some 7, some 8, some 9, some 10, some 11, some 12, some 13, some 14, some 15, some 16, some 17, some 18] (by rfl) fun _ K12 => ?_; refine rgnX_take 3 fun _ K13 => ?_; simp (disch := omega) only [go_sem, hv1, hv2, sgnI_1]; refine ⟨_, c_swarfref01_Valid _ _ (by omega), ?_⟩; refine K13 _ ?_; refine rgnX_take 5 fun _ K14 => ?_; simp (disch := omega) only [go_sem, hv1, hv2, sgnI_1]
    first | refine ⟨_, c_swarfref01_Valid _ _ (by omega), ?_⟩ | skip
    refine K14 _ ?_; refine rgnX_take 6 fun _ K15 => ?_; simp (disch := omega) only [go_sem, hv1, hv2, sgnI_1]
    first | refine ⟨_, c_swarfref01_Sign _, ?_⟩ | skip
    refine K15 _ ?_; simp (disch := omega) only [go_sem, hv1, hv2, sgnI_1]; refine K12 _ ?_; clear K15 K14 K13 K12; refine pwp_cond (b := true) (by rfl) (fun _ => ?_) (fun h => nomatch h); refine pwx_sr 0 [] (by rfl) fun _ K16 => ?_; simp (disch := omega) only [go_sem]; refine K16 _ ?_; clear K16; refine pwp_ret ?_; refine r_then ?_; refine ⟨Or.inr rfl, ?_⟩; simp (disch := omega) only [go_sem]; rw [vldR_f2 hv2]
  · obtain ⟨z1, rfl, rfl⟩ := vld_true hv1; obtain ⟨z2, rfl, rfl⟩ := vld_true hv2; simp only [fold4]; refine pwx_sr 0 [some 3, some 4, some 5, some 6, some 7, some 8, some 9, some 10, some 11, some 12, some 13, some 14, some 15, some 16, some 17, some 18] (by rfl) fun _ K17 => ?_; refine rgnX_take 3 fun _ K18 => ?_; simp (disch := omega) only [go_sem, hv1, hv2, sgnI_1]; refine ⟨_, c_swarfref01_Valid _ _ (by omega), ?_⟩; refine K18 _ ?_; refine rgnX_take 5 fun _ K19 => ?_; simp (disch := omega) only [go_sem, hv1, hv2, sgnI_1]
    first | refine ⟨_, c_swarfref01_Valid _ _ (by omega), ?_⟩ | skip
    refine K19 _ ?_; refine rgnX_take 6 fun _ K20 => ?_; simp (disch := omega) only [go_sem, hv1, hv2, sgnI_1]
    first | refine ⟨_, c_swarfref01_Sign _, ?_⟩ | skip
    refine K20 _ ?_; simp (disch := omega) only [go_sem, hv1, hv2, sgnI_1]; refine K17 _ ?_; clear K20 K19 K18 K17; refine pwp_cond (b := _) (by rfl) (fun hb3 => ?_) (fun hb3 => ?_)
    · have hz2 : ¬ 0 < z2 := by simpa using hb3
      refine pwx_sr 0 [] (by rfl) fun _ K21 => ?_; simp (disch := omega) only [go_sem]; refine K21 _ ?_; clear K21; refine pwp_ret ?_; refine r_then ?_; refine ⟨Or.inr rfl, ?_⟩; simp (disch := omega) only [go_sem]; rw [vldR_le (by omega)]
    · have hz2 : 0 < z2 := by simpa using hb3
      refine pwp_skip ?_; refine n_then ?_; refine pwx_sr 0 [] (by rfl) fun _ K22 => ?_; refine rgnX_take 5 fun _ K23 => ?_; simp (disch := omega) only [go_sem]; refine ⟨_, c_swarfref01_GCD _ _ (by omega) (by omega), ?_⟩; refine K23 _ ?_; refine rgnX_take 1 fun _ K24 => ?_; simp (disch := omega) only [go_sem]; refine ⟨_, c_swarfref02_unit, ?_⟩; refine K24 _ ?_; refine rgnX_take 1 fun _ K25 => ?_; simp (disch := omega) only [go_sem]; refine ⟨_, c_swarfref01_Same _ _ (by simp only [Int.natAbs_natCast]; exact Nat.le_trans (gcd_len _ (show 0 < z2.natAbs by omega)) hl2) szi, ?_⟩; refine K25 _ ?_; simp (disch := omega) only [go_sem]; refine K22 _ ?_; clear K25 K24 K23 K22; refine pwp_ret ?_; refine ⟨Or.inr rfl, ?_⟩; simp (disch := omega) only [go_sem]; have e := vldR_pos (z1 := z1) (z2 := z2) (by omega)
      try rw [show decide (z2 < 0) = false from decide_eq_false (by omega)] at e
      rw [e]

end Go.Proofs.YtdojhoegildiaaaGreat

namespace Go.PL
open Go.RL

def r3B (b c : Rat) : Rat := if b = 0 ∨ c = 0 then 0 else b
def r3C (b c : Rat) : Rat := if b = 0 ∨ c = 0 then 0 else c
def rC (b c : Rat) : Rat := if b = 0 then 0 else c
theorem SzR.ite {p : Prop} [Decidable p] {a b : Rat} {k l : Nat} [h : SzR a k] [h' : SzR b l] : SzR (if p then a else b) (k + l) := by
  split
  · exact h.mono (by omega)
  · exact h'.mono (by omega)
instance SzR.r3B {b c : Rat} {k : Nat} [h : SzR b k] : SzR (r3B b c) (1 + k) := SzR.ite
instance SzR.r3C {b c : Rat} {k : Nat} [h : SzR c k] : SzR (r3C b c) (1 + k) := SzR.ite
instance SzR.rC {b c : Rat} {k : Nat} [h : SzR c k] : SzR (rC b c) (1 + k) := SzR.ite
theorem rC_z {b c : Rat} (h : b = 0) : rC b c = 0 := by simp [PL.rC, h]
theorem rC_n {b c : Rat} (h : ¬ b = 0) : rC b c = c := by simp [PL.rC, h]
def r3S (a b c : Rat) : Int := if sgnQ a = sgnQ b ∨ sgnQ b = 0 then sgnQ a else if sgnQ a = 0 then sgnQ b else if 0 < sgnQ (a * a - b * b * c) then sgnQ a else sgnQ b
def rK (b c c' : Rat) : Rat := if b = 0 then c' else c
instance SzR.rK {b c c' : Rat} {k l : Nat} [h : SzR c k] [h' : SzR c' l] : SzR (rK b c c') (l + k) := SzR.ite
def flR (a b c : Rat) : Int :=
  if b = 0 then a.floor else
  let sq := b * b * c
  let w := sqrtI (((a.den : Int) * (a.den : Int)) * (sq.num * (sq.den : Int)))
  (a.num * (sq.den : Int) + (if b < 0 then -(w + 1) else w)) / ((a.den : Int) * (sq.den : Int))
def vld3 (b c : Rat) : Bool := if b = 0 ∨ c = 0 then decide (b = 0) && decide (c = 0) else decide (0 < c) && !sqB c
theorem cmpQ_eqz (a b : Rat) : (cmpQ a b = 0) = (a = b) := by
  unfold cmpQ
  rw [sgnQ_eqz]
  exact propext ⟨fun h => by grind, fun h => by grind⟩
attribute [go_sem] cmpQ_eqz zratC
def zrootC : List PC := zratC ++ (zratC ++ zratC)
theorem smlR_rat (q : Rat) {k : Nat} [h : SzR q k] : smlR k (decide (q.num < 0)) (limbs q.num.natAbs) (decide ((q.den : Int) < 0)) (limbs ((q.den : Int)).natAbs) = true := by
  unfold smlR
  rw [vldR_rat, decide_eq_true h.n.le, decide_eq_true h.d.le]; rfl
theorem flR_z {a b c : Rat} (h : b = 0) : flR a b c = a.floor := by simp [flR, h]
theorem flR_n {a b c : Rat} (h : ¬ b = 0) (h' : b < 0) : flR a b c = (a.num * ((b * b * c).den : Int) + -(sqrtI (((a.den : Int) * (a.den : Int)) * ((b * b * c).num * ((b * b * c).den : Int))) + 1)) / ((a.den : Int) * ((b * b * c).den : Int)) := by simp [flR, h, h']
theorem flR_p {a b c : Rat} (h : ¬ b = 0) (h' : ¬ b < 0) : flR a b c = (a.num * ((b * b * c).den : Int) + sqrtI (((a.den : Int) * (a.den : Int)) * ((b * b * c).num * ((b * b * c).den : Int)))) / ((a.den : Int) * ((b * b * c).den : Int)) := by simp [flR, h, h']
instance SzI.flR {a b c : Rat} {k l m : Nat} [ha : SzR a k] [hb : SzR b l] [hc : SzR c m] : SzI (flR a b c) (k + k + k + l + l + l + l + l + l + m + m + m + 9) := by
  by_cases h : b = 0
  · rw [flR_z h, Rat.floor_def]
    exact (SzI.div' (x := a.num) (y := (a.den : Int))).mono (by omega)
  · by_cases h' : b < 0
    · rw [flR_n h h']
      have : SzI ((a.num * ((b * b * c).den : Int) + -(sqrtI (((a.den : Int) * (a.den : Int)) * ((b * b * c).num * ((b * b * c).den : Int))) + 1)) / ((a.den : Int) * ((b * b * c).den : Int))) _ := inferInstance
      exact this.mono (by omega)
    · rw [flR_p h h']
      have : SzI ((a.num * ((b * b * c).den : Int) + sqrtI (((a.den : Int) * (a.den : Int)) * ((b * b * c).num * ((b * b * c).den : Int)))) / ((a.den : Int) * ((b * b * c).den : Int))) _ := inferInstance
      exact this.mono (by omega)
end Go.PL

set_option linter.unusedSimpArgs false
set_option linter.unusedVariables false
set_option maxRecDepth 20000
namespace Go.Proofs.YtdojhoegildiaaaGreat
open Go Go.PL Go.RL

end Go.Proofs.YtdojhoegildiaaaGreat

set_option linter.unusedSimpArgs false
set_option linter.unusedVariables false
set_option maxRecDepth 20000
namespace Go.Proofs.YtdojhoegildiaaaGreat
open Go Go.PL Go.RL
end Go.Proofs.YtdojhoegildiaaaGreat

set_option linter.unusedSimpArgs false
set_option linter.unusedVariables false
set_option maxRecDepth 20000
namespace Go.Proofs.YtdojhoegildiaaaGreat
open Go Go.PL Go.RL

end Go.Proofs.YtdojhoegildiaaaGreat

set_option linter.unusedSimpArgs false
set_option linter.unusedVariables false
set_option maxRecDepth 20000
namespace Go.Proofs.YtdojhoegildiaaaGreat
open Go Go.PL Go.RL
set_option maxHeartbeats 4000000 in
theorem c_root_zero :
    Ret Tryz.prog 128 [] (.e (.a (ratC 0))) := by
  refine ret_of_body (md := {}) Tryz.func128 (by kernel_rfl) rfl ?_; simp only [Tryz.f128, go_sem, Nat.reduceAdd, Nat.reduceSub, List.reduceReplicate]; refine pwx_sr 1 [] (by rfl) fun _ K1 => ?_; simp (disch := omega) only [go_sem]; refine K1 _ ?_; clear K1; refine pwx_sr 0 [] (by rfl) fun _ K2 => ?_; refine rgnX_take 1 fun _ K3 => ?_; simp (disch := omega) only [go_sem]; refine ⟨_, c_rational_FromInt64 _ (by omega) (by omega), ?_⟩; refine K3 _ ?_; simp (disch := omega) only [go_sem]; refine K2 _ ?_; clear K3 K2; refine pwp_ret ?_; refine ⟨Or.inr rfl, ?_⟩; simp (disch := omega) only [go_sem]
  all_goals rfl
set_option maxHeartbeats 4000000 in
theorem c_root_reduced (a b c : Rat) :
    Ret Tryz.prog 143 [.a (ratC a), .a (ratC b), .a (ratC c)] (.e (.a (ratC (a) ++ (ratC (b) ++ ratC (rC b c))))) := by
  refine ret_of_body (md := {}) Tryz.func143 (by kernel_rfl) rfl ?_; simp only [Tryz.f143, go_sem, Nat.reduceAdd, Nat.reduceSub, List.reduceReplicate]; refine pwx_sr 4 [] (by rfl) fun _ K1 => ?_; simp (disch := omega) only [go_sem]; refine K1 _ ?_; clear K1; refine pwp_seq ?_; refine pwx_sr 0 [] (by rfl) fun _ K2 => ?_; refine rgnX_take 2 fun _ K3 => ?_; simp (disch := omega) only [go_sem]; refine ⟨_, c_rational_Sign _, ?_⟩; refine K3 _ ?_; simp (disch := omega) only [go_sem]; refine K2 _ ?_; clear K3 K2; refine pwp_cond (b := _) (by rfl) (fun hb0 => ?_) (fun hb0 => ?_)
  · first | replace hb0 := of_decide_eq_true hb0 | skip
    refine pwx_region 0 [] (by rfl) fun _ K4 => ?_; refine rgnX_take 1 fun _ K5 => ?_; simp (disch := omega) only [go_sem]; refine ⟨_, c_root_zero, ?_⟩; refine K5 _ ?_; simp (disch := omega) only [go_sem]; refine K4 _ ?_; clear K5 K4; refine n_then ?_; refine pwx_sr 0 [] (by rfl) fun _ K6 => ?_; simp (disch := omega) only [go_sem]; refine K6 _ ?_; clear K6; refine pwp_ret ?_; refine ⟨Or.inr rfl, ?_⟩; simp (disch := omega) only [go_sem]
    all_goals first | rfl | (exfalso; simp_all; done) | simp_all [r3B, r3C, rC, rK, r3S, sgnQ_eqz, sgnQ_gtz, sgnQ_ltz, Rat.sub_eq_add_neg]
  · first | replace hb0 := of_decide_eq_false hb0 | skip
    refine pwp_skip ?_; refine n_then ?_; refine pwx_sr 0 [] (by rfl) fun _ K7 => ?_; simp (disch := omega) only [go_sem]; refine K7 _ ?_; clear K7; refine pwp_ret ?_; refine ⟨Or.inr rfl, ?_⟩; simp (disch := omega) only [go_sem]
    all_goals first | rfl | (exfalso; simp_all; done) | simp_all [r3B, r3C, rC, rK, r3S, sgnQ_eqz, sgnQ_gtz, sgnQ_ltz, Rat.sub_eq_add_neg]
set_option maxHeartbeats 4000000 in
theorem c_root_Scale (a b c n : Rat) {k l m o : Nat} [SzR a k] [SzR b l] [SzR c m] [SzR n o] (hk : k + l + m + o ≤ 20000) :
    Ret Tryz.prog 133 [.a (ratC (a) ++ (ratC (b) ++ ratC (c))), .a (ratC n)] (.e (.a (ratC (a * n) ++ (ratC (b * n) ++ ratC (rC (b * n) c))))) := by
  refine ret_of_body (md := {}) Tryz.func133 (by kernel_rfl) rfl ?_; simp only [Tryz.f133, go_sem, Nat.reduceAdd, Nat.reduceSub, List.reduceReplicate]; refine pwx_sr 3 [] (by rfl) fun _ K1 => ?_; simp (disch := omega) only [go_sem]; refine K1 _ ?_; clear K1; refine pwx_sd Tryz.mixed 0 [] (by rfl) [] (by kernel_rfl) (by simp) fun _ K2 => ?_; refine rgnX_take 4 fun _ K3 => ?_; simp (disch := omega) only [go_sem]; refine ⟨_, c_rational_Mul _ _ (by omega), ?_⟩; refine K3 _ ?_; refine rgnX_take 4 fun _ K4 => ?_; simp (disch := omega) only [go_sem]; refine ⟨_, c_rational_Mul _ _ (by omega), ?_⟩; refine K4 _ ?_; refine rgnX_take 3 fun _ K5 => ?_; simp (disch := omega) only [go_sem]; refine ⟨_, c_root_reduced _ _ _, ?_⟩; refine K5 _ ?_; simp (disch := omega) only [go_sem]; refine K2 _ ?_; clear K5 K4 K3 K2; refine pwp_ret ?_; refine ⟨Or.inr rfl, ?_⟩; simp (disch := omega) only [go_sem]
  all_goals first | rfl | (exfalso; simp_all; done) | simp_all [r3B, r3C, rC, rK, r3S, sgnQ_eqz, sgnQ_gtz, sgnQ_ltz, Rat.sub_eq_add_neg]

end Go.Proofs.YtdojhoegildiaaaGreat

namespace Go.PL
theorem bv_and (n m : Nat) (hn : n < 18446744073709551616) (hm : m < 18446744073709551616) : (BitVec.ofInt IntKind.u64.bits (n : Int) &&& BitVec.ofInt IntKind.u64.bits (m : Int)).toNat = n &&& m := by
  show (BitVec.ofInt 64 (n : Int) &&& BitVec.ofInt 64 (m : Int)).toNat = n &&& m
  rw [BitVec.toNat_and, BitVec.ofInt_natCast, BitVec.ofInt_natCast, BitVec.toNat_ofNat, BitVec.toNat_ofNat]
  rw [Nat.mod_eq_of_lt (by omega), Nat.mod_eq_of_lt (by omega)]
theorem bv_or (n m : Nat) (hn : n < 18446744073709551616) (hm : m < 18446744073709551616) : (BitVec.ofInt IntKind.u64.bits (n : Int) ||| BitVec.ofInt IntKind.u64.bits (m : Int)).toNat = n ||| m := by
  show (BitVec.ofInt 64 (n : Int) ||| BitVec.ofInt 64 (m : Int)).toNat = n ||| m
  rw [BitVec.toNat_or, BitVec.ofInt_natCast, BitVec.ofInt_natCast, BitVec.toNat_ofNat, BitVec.toNat_ofNat]
  rw [Nat.mod_eq_of_lt (by omega), Nat.mod_eq_of_lt (by omega)]
theorem and32 {n : Nat} (hn : n < 18446744073709551616) : (BitVec.ofInt 64 (n : Int) &&& BitVec.ofInt 64 4294967295).toNat = n % 4294967296 := by
  have h := bv_and n 4294967295 hn (by omega)
  have e : n &&& 4294967295 = n % 4294967296 := Nat.and_two_pow_sub_one_eq_mod n 32
  rw [e] at h
  exact h
theorem and16 {n : Nat} (hn : n < 18446744073709551616) : (BitVec.ofInt 64 (n : Int) &&& BitVec.ofInt 64 65535).toNat = n % 65536 := by
  have h := bv_and n 65535 hn (by omega)
  have e : n &&& 65535 = n % 65536 := Nat.and_two_pow_sub_one_eq_mod n 16
  rw [e] at h
  exact h
theorem or64 {n m : Nat} (hn : n < 18446744073709551616) (hm : m < 18446744073709551616) : (BitVec.ofInt 64 (n : Int) ||| BitVec.ofInt 64 (m : Int)).toNat = n ||| m := bv_or n m hn hm
theorem shr32 (n : Nat) : (n : Int).fdiv (2 ^ min 32 64) = ((n / 4294967296 : Nat) : Int) := by
  have h : (2 : Int) ^ min 32 64 = 4294967296 := by decide
  rw [h, Int.fdiv_eq_ediv_of_nonneg _ (by omega)]; rfl
theorem shr16 (n : Nat) : (n : Int).fdiv (2 ^ min 16 64) = ((n / 65536 : Nat) : Int) := by
  have h : (2 : Int) ^ min 16 64 = 65536 := by decide
  rw [h, Int.fdiv_eq_ediv_of_nonneg _ (by omega)]; rfl
theorem shl48 (n : Nat) : (n : Int) * 2 ^ min 48 64 = ((n * 281474976710656 : Nat) : Int) := by
  have h : (2 : Int) ^ min 48 64 = 281474976710656 := by decide
  rw [h, Int.natCast_mul]; rfl
theorem wu64_any (n : Nat) : IntKind.u64.wrap (n : Int) = ((n % 18446744073709551616 : Nat) : Int) := by
  unfold IntKind.wrap
  have e : (n : Int) % (2 ^ IntKind.u64.bits : Int) = ((n % 18446744073709551616 : Nat) : Int) := by
    have : (2 ^ IntKind.u64.bits : Int) = ((18446744073709551616 : Nat) : Int) := by decide
    rw [this, Int.natCast_emod]
  simp only [e]
  rw [if_neg]
  simp [IntKind.bits, IntKind.signed]
theorem binI_and32 {n : Nat} (hn : n < 18446744073709551616) : binI .and .u64 (n : Int) 4294967295 = some (.int .u64 ((n % 4294967296 : Nat) : Int)) := by
  have h := and32 hn
  have e : binI .and .u64 (n : Int) 4294967295 = some (.int .u64 (IntKind.u64.wrap (((BitVec.ofInt 64 (n : Int) &&& BitVec.ofInt 64 4294967295).toNat : Nat) : Int))) := rfl
  rw [e, h, wu64 (by omega)]
theorem binI_and16 {n : Nat} (hn : n < 18446744073709551616) : binI .and .u64 (n : Int) 65535 = some (.int .u64 ((n % 65536 : Nat) : Int)) := by
  have h := and16 hn
  have e : binI .and .u64 (n : Int) 65535 = some (.int .u64 (IntKind.u64.wrap (((BitVec.ofInt 64 (n : Int) &&& BitVec.ofInt 64 65535).toNat : Nat) : Int))) := rfl
  rw [e, h, wu64 (by omega)]
theorem binI_or {n m : Nat} (hn : n < 18446744073709551616) (hm : m < 18446744073709551616) : binI .or .u64 (n : Int) (m : Int) = some (.int .u64 ((n ||| m : Nat) : Int)) := by
  have h := or64 hn hm
  have e : binI .or .u64 (n : Int) (m : Int) = some (.int .u64 (IntKind.u64.wrap (((BitVec.ofInt 64 (n : Int) ||| BitVec.ofInt 64 (m : Int)).toNat : Nat) : Int))) := rfl
  rw [e, h, wu64 (Nat.or_lt_two_pow (n := 64) (by omega) (by omega))]
attribute [go_sem ↓ high] binI_and32 binI_and16 binI_or
attribute [go_sem] shr32 shr16 shl48
theorem mul_lt32 {a b : Nat} (ha : a < 4294967296) (hb : b < 4294967296) : a * b ≤ 18446744065119617025 := by
  have := Nat.mul_le_mul (show a ≤ 4294967295 by omega) (show b ≤ 4294967295 by omega)
  omega
theorem mul64_hi {x y x0 x1 y0 y1 w0 t w1 hi : Nat} (hx0 : x0 = x % 4294967296) (hx1 : x1 = x / 4294967296) (hy0 : y0 = y % 4294967296) (hy1 : y1 = y / 4294967296)
    (hw0 : w0 = x0 * y0) (ht : t = x1 * y0 + w0 / 4294967296) (hw1 : w1 = t % 4294967296 + x0 * y1) (hhi : hi = x1 * y1 + t / 4294967296 + w1 / 4294967296) : hi = x * y / 18446744073709551616 := by
  have ex : x = x1 * 4294967296 + x0 := by omega
  have ey : y = y1 * 4294967296 + y0 := by omega
  have hp : x * y = x1 * y1 * 18446744073709551616 + (x1 * y0 + x0 * y1) * 4294967296 + w0 := by rw [ex, ey, hw0]; grind
  rw [hp]
  have e1 := Nat.div_add_mod w0 4294967296
  have e2 := Nat.div_add_mod t 4294967296
  have e3 := Nat.div_add_mod w1 4294967296
  generalize x1 * y1 = p11 at *
  generalize x1 * y0 = p10 at *
  generalize x0 * y1 = p01 at *
  omega
end Go.PL

set_option linter.unusedSimpArgs false
set_option linter.unusedVariables false
set_option maxRecDepth 20000
namespace Go.Proofs.YtdojhoegildiaaaGreat
open Go Go.PL Go.RL
set_option maxHeartbeats 4000000 in
theorem c_bits_Mul64 (x y : Nat) (hx : x < 18446744073709551616) (hy : y < 18446744073709551616) :
    Ret Tryz.prog 137 [.c (.int .u64 (x : Int)), .c (.int .u64 (y : Int))] (.t [.c (.int .u64 ((x * y / 18446744073709551616 : Nat) : Int)), .c (.int .u64 ((x * y % 18446744073709551616 : Nat) : Int))]) := by
  refine ret_of_body (md := {}) Tryz.func137 (by kernel_rfl) rfl ?_; simp only [Tryz.f137, go_sem, Nat.reduceAdd, Nat.reduceSub, List.reduceReplicate]; have hx0 := Nat.mod_lt x (show 0 < 4294967296 by omega); have hy0 := Nat.mod_lt y (show 0 < 4294967296 by omega)
  have hx1 : x / 4294967296 < 4294967296 := by omega
  have hy1 : y / 4294967296 < 4294967296 := by omega
  have b00 := mul_lt32 hx0 hy0; have b10 := mul_lt32 hx1 hy0; have b01 := mul_lt32 hx0 hy1; have b11 := mul_lt32 hx1 hy1; refine pwx_sr 0 [] (by rfl) fun _ K1 => ?_; simp (disch := omega) only [go_sem]; refine K1 _ ?_; clear K1; refine pwx_sr 0 [] (by rfl) fun _ K2 => ?_; simp (disch := omega) only [go_sem]; refine K2 _ ?_; clear K2; refine pwx_sr 0 [] (by rfl) fun _ K3 => ?_; simp (disch := omega) only [go_sem]; refine K3 _ ?_; clear K3; refine pwx_sr 0 [] (by rfl) fun _ K4 => ?_; simp (disch := omega) only [go_sem]; refine K4 _ ?_; clear K4; refine pwx_sr 0 [] (by rfl) fun _ K5 => ?_; simp (disch := omega) only [go_sem]; refine K5 _ ?_; clear K5; refine pwx_sr 0 [] (by rfl) fun _ K6 => ?_; simp (disch := omega) only [go_sem]; refine K6 _ ?_; clear K6; refine pwx_sr 0 [] (by rfl) fun _ K7 => ?_; simp (disch := omega) only [go_sem]; refine K7 _ ?_; clear K7; refine pwx_sr 0 [] (by rfl) fun _ K8 => ?_; simp (disch := omega) only [go_sem]; refine K8 _ ?_; clear K8; refine pwx_sr 0 [] (by rfl) fun _ K9 => ?_; simp (disch := omega) only [go_sem]; refine K9 _ ?_; clear K9; refine pwx_sr 0 [] (by rfl) fun _ K10 => ?_; simp (disch := omega) only [go_sem]; refine K10 _ ?_; clear K10; refine pwx_sr 0 [] (by rfl) fun _ K11 => ?_; simp (disch := omega) only [go_sem]; refine K11 _ ?_; clear K11; refine pwx_sr 0 [] (by rfl) fun _ K12 => ?_; simp (disch := omega) only [go_sem]; refine K12 _ ?_; clear K12; refine pwp_ret ?_; refine ⟨Or.inr rfl, ?_⟩; simp (disch := omega) only [go_sem]
  have e := mul64_hi (x := x) (y := y) rfl rfl rfl rfl rfl rfl rfl rfl; rw [e, wu64_any]; exact ⟨rfl, rfl⟩

end Go.Proofs.YtdojhoegildiaaaGreat

namespace Go.PL
open Go.RL

structure Iv where
  lo : Int
  hi : Int
  ok : Bool
def Iv.no : Iv := ⟨0, 0, false⟩
structure Iv.Bd (i : Iv) : Prop where
  a : -2305843009213693952 ≤ i.lo
  b : i.lo ≤ i.hi
  c : i.hi ≤ 2305843009213693952
theorem Iv.Bd.no : Iv.Bd Iv.no := ⟨by simp [Iv.no], by simp [Iv.no], by simp [Iv.no]⟩
def prF (lo hi : Int) : Iv := if lo < -2305843009213693952 ∨ 2305843009213693952 < hi then Iv.no else ⟨lo, hi, true⟩
theorem prF_n {lo hi : Int} (h : lo < -2305843009213693952 ∨ 2305843009213693952 < hi) : prF lo hi = Iv.no := if_pos h
theorem prF_y {lo hi : Int} (h : ¬ lo < -2305843009213693952) (h' : ¬ 2305843009213693952 < hi) : prF lo hi = ⟨lo, hi, true⟩ := if_neg (by omega)
theorem prF_bd {lo hi : Int} (h : lo ≤ hi) : (prF lo hi).Bd := by
  unfold prF; split
  · exact Iv.Bd.no
  · exact ⟨by simp only; omega, h, by simp only; omega⟩
theorem prF_ok {lo hi : Int} (h : (prF lo hi).ok = true) : (prF lo hi).lo = lo ∧ (prF lo hi).hi = hi := by
  unfold prF at h ⊢; split
  · rename_i c; rw [if_pos c] at h; cases h
  · exact ⟨rfl, rfl⟩
def frF (a : Rat) : Iv :=
  if fit64 (a * 65536).floor = true ∧ fit64 (-(-(a * 65536)).floor) = true then prF (a * 65536).floor (-(-(a * 65536)).floor) else Iv.no
theorem fl_le (q : Rat) : (q.floor : Rat) ≤ q := Rat.floor_le q
theorem lt_fl (q : Rat) : q < (q.floor : Rat) + 1 := by
  have := Rat.lt_floor_add_one q
  simpa using this
theorem fl_mono2 (q : Rat) : q.floor ≤ -(-q).floor := by
  have h1 := fl_le q
  have h2 := fl_le (-q)
  have h3 : (q.floor : Rat) + ((-q).floor : Rat) ≤ 0 := by grind
  have h4 : ((q.floor + (-q).floor : Int) : Rat) ≤ ((0 : Int) : Rat) := by rw [Rat.intCast_add]; exact h3
  have := Rat.intCast_le_intCast.1 h4
  omega
theorem frF_bd (a : Rat) : (frF a).Bd := by
  unfold frF; split
  · exact prF_bd (fl_mono2 _)
  · exact Iv.Bd.no
theorem frF_ok {a : Rat} (h : (frF a).ok = true) : inI (frF a).lo (frF a).hi (Re.of a) := by
  unfold frF at h ⊢
  split
  · rename_i c
    rw [if_pos c] at h
    obtain ⟨e1, e2⟩ := prF_ok h
    rw [e1, e2]
    refine inI_of (fl_le _) ?_
    have := fl_le (-(a * 65536))
    rw [Rat.intCast_neg]
    grind
  · rename_i c; rw [if_neg c] at h; cases h
def adF (i j : Iv) : Iv := prF (i.lo + j.lo) (i.hi + j.hi)
theorem adF_bd {i j : Iv} (h : i.Bd) (h' : j.Bd) : (adF i j).Bd := prF_bd (by have := h.b; have := h'.b; omega)
theorem adF_ok {i j : Iv} {x y : Re} (h : (adF i j).ok = true) (hx : inI i.lo i.hi x) (hy : inI j.lo j.hi y) : inI (adF i j).lo (adF i j).hi (x + y) := by
  obtain ⟨e1, e2⟩ := prF_ok h
  unfold adF
  rw [e1, e2]
  exact inI_add hx hy
def upF (H : Int) : Int := if sqrtI (H * 65536) * sqrtI (H * 65536) = H * 65536 then sqrtI (H * 65536) else sqrtI (H * 65536) + 1
def sqF (i : Iv) : Iv := if i.hi < 0 then Iv.no else prF (sqrtI ((if i.lo < 0 then 0 else i.lo) * 65536)) (upF i.hi)
theorem sqrtI_facts {z : Int} (h : 0 ≤ z) : 0 ≤ sqrtI z ∧ sqrtI z * sqrtI z ≤ z ∧ z < (sqrtI z + 1) * (sqrtI z + 1) := by
  obtain ⟨n, rfl⟩ := Int.eq_ofNat_of_zero_le h
  rw [sqrtI_nat]
  refine ⟨by omega, ?_, ?_⟩
  · have := Nat.sqrt_le n
    exact_mod_cast this
  · have := Nat.lt_succ_sqrt n
    exact_mod_cast this
theorem sq_mono {a b : Int} (ha : 0 ≤ a) (h : a * a ≤ b * b) (hb : 0 ≤ b) : a ≤ b := by
  rcases Int.lt_or_le b a with c | c
  · exfalso
    have h1 : b * b ≤ b * a := Int.mul_le_mul_of_nonneg_left (by omega) hb
    have h2 : b * a < a * a := Int.mul_lt_mul_of_pos_right c (by omega)
    omega
  · exact c
theorem upF_facts {H : Int} (h : 0 ≤ H) : 0 ≤ upF H ∧ H * 65536 ≤ upF H * upF H := by
  obtain ⟨h1, h2, h3⟩ := sqrtI_facts (show 0 ≤ H * 65536 by omega)
  unfold upF
  split
  · exact ⟨h1, by omega⟩
  · exact ⟨by omega, by omega⟩
theorem sqF_bd {i : Iv} (h : i.Bd) : (sqF i).Bd := by
  unfold sqF; split
  · exact Iv.Bd.no
  · rename_i hn
    obtain ⟨u1, u2⟩ := upF_facts (show 0 ≤ i.hi by omega)
    have hb := h.b
    have hm : 0 ≤ (if i.lo < 0 then 0 else i.lo) ∧ (if i.lo < 0 then 0 else i.lo) ≤ i.hi := by split <;> omega
    generalize (if i.lo < 0 then 0 else i.lo) = m at hm ⊢
    obtain ⟨s1, s2, s3⟩ := sqrtI_facts (z := m * 65536) (by omega)
    exact prF_bd (sq_mono s1 (by omega) u1)
theorem sqF_ok {i : Iv} {q : Rat} (hq : 0 ≤ q) (h : (sqF i).ok = true) (hx : inI i.lo i.hi (Re.of q)) : inI (sqF i).lo (sqF i).hi (rt q) := by
  unfold sqF at h ⊢
  split
  · rename_i c; rw [if_pos c] at h; cases h
  · rename_i c
    rw [if_neg c] at h
    obtain ⟨e1, e2⟩ := prF_ok h
    rw [e1, e2]
    obtain ⟨u1, u2⟩ := upF_facts (show 0 ≤ i.hi by omega)
    obtain ⟨s1, s2, s3⟩ := sqrtI_facts (z := (if i.lo < 0 then 0 else i.lo) * 65536) (by split <;> omega)
    refine inI_sqrt hq hx s1 ?_ u1 u2
    have : (if i.lo < 0 then 0 else i.lo) = max i.lo 0 := by split <;> omega
    rw [this] at s2 ⊢; exact s2
def scF (x y : Int) : Iv :=
  if x.natAbs * y.natAbs / 18446744073709551616 / 65536 ≠ 0 then Iv.no else
  if 2305843009213693952 < x.natAbs * y.natAbs / 65536 then Iv.no else
  let q : Int := (x.natAbs * y.natAbs / 65536 : Nat)
  let h : Int := if x.natAbs * y.natAbs % 18446744073709551616 % 65536 ≠ 0 then q + 1 else q
  if (decide (x < 0) != decide (y < 0)) = true then ⟨-h, -q, decide (-2305843009213693952 ≤ -h) && decide (-q ≤ 2305843009213693952)⟩
  else ⟨q, h, decide (-2305843009213693952 ≤ q) && decide (h ≤ 2305843009213693952)⟩
theorem abs_mul (x y : Int) : ((x.natAbs * y.natAbs : Nat) : Int) = if (decide (x < 0) != decide (y < 0)) = true then -(x * y) else x * y := by
  have h := sg_mul x y
  by_cases c : (decide (x < 0) != decide (y < 0)) = true
  · rw [if_pos c, ← h]; rw [c]; simp [sg]
  · rw [if_neg c, ← h]; simp only [Bool.not_eq_true] at c; rw [c]; simp [sg]
theorem scF_ok {x y : Int} (h : (scF x y).ok = true) : (scF x y).lo * 65536 ≤ x * y ∧ x * y ≤ (scF x y).hi * 65536 ∧ -2305843009213693952 ≤ (scF x y).lo ∧ (scF x y).lo ≤ (scF x y).hi ∧ (scF x y).hi ≤ 2305843009213693952 := by
  have hm := abs_mul x y
  unfold scF at h ⊢
  generalize x.natAbs * y.natAbs = P at *
  split
  · rename_i c; rw [if_pos c] at h; cases h
  · rename_i c1
    rw [if_neg c1] at h
    split
    · rename_i c; rw [if_pos c] at h; cases h
    · rename_i c2
      rw [if_neg c2] at h
      simp only at h ⊢
      generalize x * y = Z at *
      split
      · rename_i c3
        rw [if_pos c3] at h hm
        simp only [Bool.and_eq_true, decide_eq_true_eq] at h ⊢
        split at h <;> omega
      · rename_i c3
        rw [if_neg c3] at h hm
        simp only [Bool.and_eq_true, decide_eq_true_eq] at h ⊢
        split at h <;> omega
def prs (i j : Iv) : Nat → Iv
  | 0 => scF i.lo j.lo
  | 1 => scF i.lo j.hi
  | 2 => scF i.hi j.lo
  | _ => scF i.hi j.hi
def mlo (i j : Iv) : Nat → Int
  | 0 => 2305843009213693952
  | n + 1 => if (prs i j n).lo < mlo i j n then (prs i j n).lo else mlo i j n
def mhi (i j : Iv) : Nat → Int
  | 0 => -2305843009213693952
  | n + 1 => if mhi i j n < (prs i j n).hi then (prs i j n).hi else mhi i j n
def muF (i j : Iv) : Iv := if (prs i j 0).ok = true ∧ (prs i j 1).ok = true ∧ (prs i j 2).ok = true ∧ (prs i j 3).ok = true then ⟨mlo i j 4, mhi i j 4, true⟩ else Iv.no
theorem mlo_le (i j : Iv) (n : Nat) : mlo i j (n + 1) ≤ (prs i j n).lo ∧ mlo i j (n + 1) ≤ mlo i j n := by
  simp only [mlo]; split <;> omega
theorem mhi_ge (i j : Iv) (n : Nat) : (prs i j n).hi ≤ mhi i j (n + 1) ∧ mhi i j n ≤ mhi i j (n + 1) := by
  simp only [mhi]; split <;> omega
theorem mlo_bd (i j : Iv) (n : Nat) (h : ∀ k, k < n → -2305843009213693952 ≤ (prs i j k).lo) : -2305843009213693952 ≤ mlo i j n := by
  induction n with
  | zero => simp [mlo]
  | succ n ih =>
    have h1 := ih fun k hk => h k (by omega)
    have h2 := h n (by omega)
    simp only [mlo]; split <;> omega
theorem mhi_bd (i j : Iv) (n : Nat) (h : ∀ k, k < n → (prs i j k).hi ≤ 2305843009213693952) : mhi i j n ≤ 2305843009213693952 := by
  induction n with
  | zero => simp [mhi]
  | succ n ih =>
    have h1 := ih fun k hk => h k (by omega)
    have h2 := h n (by omega)
    simp only [mhi]; split <;> omega
theorem muF_facts {i j : Iv} (h : (prs i j 0).ok = true ∧ (prs i j 1).ok = true ∧ (prs i j 2).ok = true ∧ (prs i j 3).ok = true) :
    (∀ k, k < 4 → (prs i j k).ok = true) ∧ (∀ k, k < 4 → mlo i j 4 ≤ (prs i j k).lo ∧ (prs i j k).hi ≤ mhi i j 4) := by
  obtain ⟨h0, h1, h2, h3⟩ := h
  refine ⟨fun k hk => ?_, fun k hk => ?_⟩
  · match k, hk with
    | 0, _ => exact h0
    | 1, _ => exact h1
    | 2, _ => exact h2
    | 3, _ => exact h3
  · have a0 := mlo_le i j 0; have a1 := mlo_le i j 1; have a2 := mlo_le i j 2; have a3 := mlo_le i j 3
    have b0 := mhi_ge i j 0; have b1 := mhi_ge i j 1; have b2 := mhi_ge i j 2; have b3 := mhi_ge i j 3
    simp only [Nat.reduceAdd, prs] at a0 a1 a2 a3 b0 b1 b2 b3 ⊢
    match k, hk with
    | 0, _ => simp only; omega
    | 1, _ => simp only; omega
    | 2, _ => simp only; omega
    | 3, _ => simp only; omega
theorem muF_bd (i j : Iv) : (muF i j).Bd := by
  unfold muF; split
  · rename_i c
    obtain ⟨f1, f2⟩ := muF_facts c
    have hs : ∀ k, k < 4 → -2305843009213693952 ≤ (prs i j k).lo ∧ (prs i j k).lo ≤ (prs i j k).hi ∧ (prs i j k).hi ≤ 2305843009213693952 := fun k hk => by
      have := f1 k hk
      match k, hk with
      | 0, _ => exact (scF_ok this).2.2
      | 1, _ => exact (scF_ok this).2.2
      | 2, _ => exact (scF_ok this).2.2
      | 3, _ => exact (scF_ok this).2.2
    refine ⟨mlo_bd i j 4 fun k hk => (hs k hk).1, ?_, mhi_bd i j 4 fun k hk => (hs k hk).2.2⟩
    have := f2 0 (by omega)
    have := hs 0 (by omega)
    simp only; omega
  · exact Iv.Bd.no
theorem muF_ok {i j : Iv} {x y : Re} (h : (muF i j).ok = true) (hx : inI i.lo i.hi x) (hy : inI j.lo j.hi y) : inI (muF i j).lo (muF i j).hi (x * y) := by
  unfold muF at h ⊢
  split
  · rename_i c
    obtain ⟨f1, f2⟩ := muF_facts c
    have g0 := scF_ok (f1 0 (by omega)); have g1 := scF_ok (f1 1 (by omega)); have g2 := scF_ok (f1 2 (by omega)); have g3 := scF_ok (f1 3 (by omega))
    have e0 := f2 0 (by omega); have e1 := f2 1 (by omega); have e2 := f2 2 (by omega); have e3 := f2 3 (by omega)
    simp only [prs] at e0 e1 e2 e3
    show inI (mlo i j 4) (mhi i j 4) (x * y)
    exact inI_mul hx hy (by omega) (by omega) (by omega) (by omega) (by omega) (by omega) (by omega) (by omega)
  · rename_i c; rw [if_neg c] at h; cases h
def siF (i : Iv) : Int × Bool := if 0 < i.lo then (1, true) else if i.hi < 0 then (-1, true) else (0, decide (i.lo = 0) && decide (i.hi = 0))
theorem siF_ok {i : Iv} {x : Re} (h : (siF i).2 = true) (hx : inI i.lo i.hi x) : (siF i).1 = sgn x := by
  unfold siF at h ⊢
  split
  · rename_i c; exact (inI_pos hx c).symm
  · rename_i c1
    rw [if_neg c1] at h
    split
    · rename_i c; exact (inI_negv hx c).symm
    · rename_i c2
      rw [if_neg c2] at h
      simp only [Bool.and_eq_true, decide_eq_true_eq] at h
      rw [h.1, h.2] at hx
      exact (inI_zero hx).symm
theorem abs_n {x : Int} (h : x < 0) (h' : -2305843009213693952 ≤ x) : IntKind.u64.wrap (0 - IntKind.u64.wrap x) = ((x.natAbs : Nat) : Int) := by
  have e : IntKind.u64.wrap x = x + 18446744073709551616 := by
    have : (2 : Int) ^ IntKind.u64.bits = 18446744073709551616 := by decide
    unfold IntKind.wrap
    simp only [this]
    rw [if_neg (by simp [IntKind.signed])]
    omega
  rw [e]
  have : (2 : Int) ^ IntKind.u64.bits = 18446744073709551616 := by decide
  unfold IntKind.wrap
  simp only [this]
  rw [if_neg (by simp [IntKind.signed])]
  omega
theorem scq {n : Nat} (h : n / 18446744073709551616 < 65536) : (n / 18446744073709551616 * 281474976710656 ||| n % 18446744073709551616 / 65536) = n / 65536 := by
  have h1 : n % 18446744073709551616 / 65536 < 2 ^ 48 := by omega
  have h2 := Nat.two_pow_add_eq_or_of_lt h1 (n / 18446744073709551616)
  rw [Nat.mul_comm, show (281474976710656 : Nat) = 2 ^ 48 by rfl, ← h2]
  omega
theorem nz_t {n : Nat} (h : (!decide ((n : Int) = 0)) = true) : n ≠ 0 := by simp only [Bool.not_eq_true', decide_eq_false_iff_not] at h; omega
theorem nz_f {n : Nat} (h : (!decide ((n : Int) = 0)) = false) : n = 0 := by simp only [Bool.not_eq_false', decide_eq_true_eq] at h; omega
theorem scF_a {x y : Int} (h : x.natAbs * y.natAbs / 18446744073709551616 / 65536 ≠ 0) : scF x y = Iv.no := if_pos h
theorem scF_b {x y : Int} (h : ¬ x.natAbs * y.natAbs / 18446744073709551616 / 65536 ≠ 0) (h' : 2305843009213693952 < x.natAbs * y.natAbs / 65536) : scF x y = Iv.no := by
  unfold scF; rw [if_neg h, if_pos h']
theorem scF_t {x y k : Int} (h : x.natAbs * y.natAbs / 18446744073709551616 / 65536 = 0) (h' : ¬ 2305843009213693952 < ((x.natAbs * y.natAbs / 65536 : Nat) : Int)) {c : Bool}
    (hc : (!decide (((x.natAbs * y.natAbs % 18446744073709551616 % 65536 : Nat) : Int) = 0)) = c) (hd : (!decide (x < 0) == decide (y < 0)) = true) (hk : (bif c then (1 : Int) else 0) = k) : (scF x y).lo = -(((x.natAbs * y.natAbs / 65536 : Nat) : Int) + k) ∧ (scF x y).hi = -((x.natAbs * y.natAbs / 65536 : Nat) : Int) ∧ (scF x y).ok = decide (((x.natAbs * y.natAbs / 65536 : Nat) : Int) + k ≤ 2305843009213693952) := by
  unfold scF
  replace hd : (decide (x < 0) != decide (y < 0)) = true := hd
  simp only [hd]
  generalize x.natAbs * y.natAbs = P at *
  rw [if_neg (by omega), if_neg (by omega)]
  have h1 : decide (-2305843009213693952 ≤ ((P / 65536 : Nat) : Int)) = true := decide_eq_true (by omega)
  have h2 : decide (-((P / 65536 : Nat) : Int) ≤ 2305843009213693952) = true := decide_eq_true (by omega)
  have hc' : (if P % 18446744073709551616 % 65536 ≠ 0 then ((P / 65536 : Nat) : Int) + 1 else ((P / 65536 : Nat) : Int)) = ((P / 65536 : Nat) : Int) + k := by
    cases c
    · have e := nz_f hc
      rw [if_neg (fun h => h e), ← hk]; simp
    · rw [if_pos (nz_t hc), ← hk]; simp
  simp only [hc']
  simp only [if_true, h2, Bool.and_true, true_and]
  exact decide_eq_decide.2 (by omega)
theorem scF_f {x y k : Int} (h : x.natAbs * y.natAbs / 18446744073709551616 / 65536 = 0) (h' : ¬ 2305843009213693952 < ((x.natAbs * y.natAbs / 65536 : Nat) : Int)) {c : Bool}
    (hc : (!decide (((x.natAbs * y.natAbs % 18446744073709551616 % 65536 : Nat) : Int) = 0)) = c) (hd : (!decide (x < 0) == decide (y < 0)) = false) (hk : (bif c then (1 : Int) else 0) = k) : (scF x y).lo = ((x.natAbs * y.natAbs / 65536 : Nat) : Int) ∧ (scF x y).hi = ((x.natAbs * y.natAbs / 65536 : Nat) : Int) + k ∧ (scF x y).ok = decide (((x.natAbs * y.natAbs / 65536 : Nat) : Int) + k ≤ 2305843009213693952) := by
  unfold scF
  replace hd : (decide (x < 0) != decide (y < 0)) = false := hd
  simp only [hd]
  generalize x.natAbs * y.natAbs = P at *
  rw [if_neg (by omega), if_neg (by omega)]
  have h1 : decide (-2305843009213693952 ≤ ((P / 65536 : Nat) : Int)) = true := decide_eq_true (by omega)
  have h2 : decide (-((P / 65536 : Nat) : Int) ≤ 2305843009213693952) = true := decide_eq_true (by omega)
  have hc' : (if P % 18446744073709551616 % 65536 ≠ 0 then ((P / 65536 : Nat) : Int) + 1 else ((P / 65536 : Nat) : Int)) = ((P / 65536 : Nat) : Int) + k := by
    cases c
    · have e := nz_f hc
      rw [if_neg (fun h => h e), ← hk]; simp
    · rw [if_pos (nz_t hc), ← hk]; simp
  simp only [hc']
  simp only [Bool.false_eq_true, if_false, h1, Bool.true_and, and_self]
theorem frF_y {a : Rat} (h1 : fit64 (a * 65536).floor = true) (h2 : fit64 (-(-(a * 65536)).floor) = true) : frF a = prF (a * 65536).floor (-(-(a * 65536)).floor) := if_pos ⟨h1, h2⟩
theorem frF_1 {a : Rat} (h1 : fit64 (a * 65536).floor = false) : frF a = Iv.no := if_neg (by rw [h1]; simp)
theorem frF_2 {a : Rat} (h1 : fit64 (-(-(a * 65536)).floor) = false) : frF a = Iv.no := if_neg (by rw [h1]; simp)
instance SzI.fl' {q : Rat} {k : Nat} [h : SzR q k] : SzI q.floor k := by rw [Rat.floor_def]; exact SzI.div'
instance : SzI 65536 1 := szi_lit (by decide)
theorem szi_61 {n : Int} (h : -2305843009213693953 ≤ n) (h' : n ≤ 2305843009213693953) : SzI n 3 := szi_lit (Nat.lt_trans (show n.natAbs < 2305843009213693954 by omega) (by decide))
theorem sqF_n {i : Iv} (h : i.hi < 0) : sqF i = Iv.no := if_pos h
theorem sqF_y {i : Iv} (h : ¬ i.hi < 0) {c : Bool} (hc : decide (sqrtI (i.hi * 65536) * sqrtI (i.hi * 65536) = i.hi * 65536) = c) : sqF i = prF (sqrtI ((if i.lo < 0 then 0 else i.lo) * 65536)) (bif c then sqrtI (i.hi * 65536) else sqrtI (i.hi * 65536) + 1) := by
  unfold sqF upF; rw [if_neg h]
  cases c
  · rw [if_neg (of_decide_eq_false hc)]; rfl
  · rw [if_pos (of_decide_eq_true hc)]; rfl
theorem sqrtI_61 {z : Int} (h : 0 ≤ z) (h' : z ≤ 2305843009213693952) : 0 ≤ sqrtI (z * 65536) ∧ sqrtI (z * 65536) ≤ 2305843009213693952 := by
  obtain ⟨h1, h2, h3⟩ := sqrtI_facts (show 0 ≤ z * 65536 by omega)
  refine ⟨h1, ?_⟩
  have : sqrtI (z * 65536) * sqrtI (z * 65536) ≤ 2305843009213693952 * 2305843009213693952 := by omega
  exact sq_mono h1 this (by omega)
theorem ic65536 : ((65536 : Int) : Rat) = 65536 := rfl
theorem not_t {b : Bool} (h : (!b) = true) : b = false := by cases b <;> simp_all
theorem not_f {b : Bool} (h : (!b) = false) : b = true := by cases b <;> simp_all
def sel (i : Iv) (u : Nat) : Int := if u = 0 then i.lo else i.hi
theorem sel_bd {i : Iv} (h : i.Bd) (u : Nat) : -2305843009213693952 ≤ sel i u ∧ sel i u ≤ 2305843009213693952 := by
  have := h.a; have := h.b; have := h.c
  unfold sel; split <;> omega
theorem prs_uv {i j : Iv} {u v : Nat} (hu : u < 2) (hv : v < 2) : prs i j (2 * u + v) = scF (sel i u) (sel j v) := by
  match u, hu, v, hv with
  | 0, _, 0, _ => rfl
  | 0, _, 1, _ => rfl
  | 1, _, 0, _ => rfl
  | 1, _, 1, _ => rfl
theorem mlo_uv {i j : Iv} {u v : Nat} (hu : u < 2) (hv : v < 2) : mlo i j (2 * u + (v + 1)) = if (scF (sel i u) (sel j v)).lo < mlo i j (2 * u + v) then (scF (sel i u) (sel j v)).lo else mlo i j (2 * u + v) := by
  rw [← prs_uv hu hv]; rfl
theorem mhi_uv {i j : Iv} {u v : Nat} (hu : u < 2) (hv : v < 2) : mhi i j (2 * u + (v + 1)) = if mhi i j (2 * u + v) < (scF (sel i u) (sel j v)).hi then (scF (sel i u) (sel j v)).hi else mhi i j (2 * u + v) := by
  rw [← prs_uv hu hv]; rfl
theorem muF_n {i j : Iv} {u v : Nat} (hu : u < 2) (hv : v < 2) (h : (scF (sel i u) (sel j v)).ok = false) : muF i j = Iv.no := by
  rw [← prs_uv hu hv] at h
  refine if_neg ?_
  rintro ⟨a, b, c, d⟩
  match u, hu, v, hv with
  | 0, _, 0, _ => rw [show prs i j 0 = prs i j (2 * 0 + 0) from rfl, h] at a; cases a
  | 0, _, 1, _ => rw [show prs i j 1 = prs i j (2 * 0 + 1) from rfl, h] at b; cases b
  | 1, _, 0, _ => rw [show prs i j 2 = prs i j (2 * 1 + 0) from rfl, h] at c; cases c
  | 1, _, 1, _ => rw [show prs i j 3 = prs i j (2 * 1 + 1) from rfl, h] at d; cases d
theorem muF_y {i j : Iv} (h : ∀ k, k < 2 * 2 → (prs i j k).ok = true) : muF i j = ⟨mlo i j (2 * 2), mhi i j (2 * 2), true⟩ := if_pos ⟨h 0 (by omega), h 1 (by omega), h 2 (by omega), h 3 (by omega)⟩
theorem prs_step {i j : Iv} {u v : Nat} (hu : u < 2) (hv : v < 2) (h : ∀ k, k < 2 * u + v → (prs i j k).ok = true) (h' : (scF (sel i u) (sel j v)).ok = true) : ∀ k, k < 2 * u + (v + 1) → (prs i j k).ok = true := by
  intro k hk
  rcases Nat.lt_or_eq_of_le (show k ≤ 2 * u + v by omega) with c | c
  · exact h k c
  · rw [c, prs_uv hu hv]; exact h'
theorem dec_two {p : Prop} [Decidable p] {b : Bool} (h : b = decide p) : (p → b = true) ∧ (¬ p → b = false) := ⟨fun hp => by rw [h]; exact decide_eq_true hp, fun hp => by rw [h]; exact decide_eq_false hp⟩
theorem siF_1 {i : Iv} (h : 0 < i.lo) : siF i = (1, true) := if_pos h
theorem siF_2 {i : Iv} (h : ¬ 0 < i.lo) (h' : i.hi < 0) : siF i = (-1, true) := by unfold siF; rw [if_neg h, if_pos h']
theorem siF_3 {i : Iv} (h : ¬ 0 < i.lo) (h' : ¬ i.hi < 0) : siF i = (0, decide (i.lo = 0) && decide (i.hi = 0)) := by unfold siF; rw [if_neg h, if_neg h']
theorem idx_iv {i : Iv} {sz bs ag zz e k} {u : Nat} (h : u < 2) : indexA ⟨sz, bs, ag, zz, .slice e⟩ 1 (some (.c (.sl 2 [.int .i64 i.lo, .int .i64 i.hi]))) (some (.c (.int k (u : Int)))) = some (.iptr [.int .i64 (sel i u)]) := by
  match u, h with
  | 0, _ => rfl
  | 1, _ => rfl
end Go.PL

set_option linter.unusedSimpArgs false
set_option linter.unusedVariables false
set_option maxRecDepth 20000
namespace Go.Proofs.YtdojhoegildiaaaGreat
open Go Go.PL Go.RL
set_option maxHeartbeats 4000000 in
theorem c_filter_abs (x : Int) (hx : -2305843009213693952 ≤ x) (hx' : x ≤ 2305843009213693952) :
    Ret Tryz.prog 138 [.c (.int .i64 x)] (.e (.c (.int .u64 ((x.natAbs : Nat) : Int)))) := by
  refine ret_of_body (md := {}) Tryz.func138 (by kernel_rfl) rfl ?_; simp only [Tryz.f138, go_sem, Nat.reduceAdd, Nat.reduceSub, List.reduceReplicate]; refine pwx_sr 0 [] (by rfl) fun _ K1 => ?_; simp (disch := omega) only [go_sem]; refine K1 _ ?_; clear K1; refine pwp_seq ?_; refine pwx_sr 0 [] (by rfl) fun _ K2 => ?_; simp (disch := omega) only [go_sem]; refine K2 _ ?_; clear K2; refine pwp_cond (b := _) (by rfl) (fun hb0 => ?_) (fun hb0 => ?_)
  · first | replace hb0 := of_decide_eq_true hb0 | skip
    refine pwx_sr 0 [] (by rfl) fun _ K3 => ?_; simp (disch := omega) only [go_sem]; refine K3 _ ?_; clear K3; refine pwp_ret ?_; refine r_then ?_; refine ⟨Or.inr rfl, ?_⟩; simp (disch := omega) only [go_sem]; exact (abs_n hb0 hx).symm
  · first | replace hb0 := of_decide_eq_false hb0 | skip
    refine pwp_skip ?_; refine n_then ?_; refine pwx_sr 0 [] (by rfl) fun _ K4 => ?_; simp (disch := omega) only [go_sem]; refine K4 _ ?_; clear K4; refine pwp_ret ?_; refine ⟨Or.inr rfl, ?_⟩; simp (disch := omega) only [go_sem]; omega
set_option maxHeartbeats 4000000 in
theorem c_filter_proper (x y : Int) :
    Ret Tryz.prog 113 [.c (.int .i64 x), .c (.int .i64 y)] (.t [.a [.int .i64 (prF x y).lo, .int .i64 (prF x y).hi], .c (.bool (prF x y).ok)]) := by
  refine ret_of_body (md := {}) Tryz.func113 (by kernel_rfl) rfl ?_; simp only [Tryz.f113, go_sem, Nat.reduceAdd, Nat.reduceSub, List.reduceReplicate]; refine pwx_sr 1 [] (by rfl) fun _ K1 => ?_; simp (disch := omega) only [go_sem]; refine K1 _ ?_; clear K1; refine pwp_seq ?_; by_cases h0 : x < -2305843009213693952
  · refine pwx_sr 0 [some 6, some 7, some 8, some 9, some 10, some 11] (by rfl) fun _ K2 => ?_; simp (disch := omega) only [go_sem]; refine K2 _ ?_; clear K2; refine pwp_cond (b := _) (by rfl) (fun hb0 => ?_) (fun hb0 => ?_)
    · first | replace hb0 := of_decide_eq_true hb0 | skip
      refine pwx_sr 0 [] (by rfl) fun _ K3 => ?_; simp (disch := omega) only [go_sem]; refine K3 _ ?_; clear K3; refine pwp_ret ?_; refine r_then ?_; refine ⟨Or.inr rfl, ?_⟩; simp (disch := omega) only [go_sem]
      all_goals first | trivial | (rw [prF_n (by omega)]; exact ⟨⟨rfl, rfl⟩, rfl⟩) | (rw [prF_y (by omega) (by omega)]; exact ⟨⟨rfl, rfl⟩, rfl⟩) | contradiction
    · first | replace hb0 := of_decide_eq_false hb0 | skip
      refine pwp_skip ?_; refine n_then ?_; refine pwx_sr 0 [] (by rfl) fun _ K4 => ?_; simp (disch := omega) only [go_sem]; refine K4 _ ?_; clear K4; refine pwp_ret ?_; refine ⟨Or.inr rfl, ?_⟩; simp (disch := omega) only [go_sem]
      all_goals first | trivial | (rw [prF_n (by omega)]; exact ⟨⟨rfl, rfl⟩, rfl⟩) | (rw [prF_y (by omega) (by omega)]; exact ⟨⟨rfl, rfl⟩, rfl⟩) | contradiction
  · refine pwx_sr 0 [some 6, some 7, some 8, some 9, some 10, some 11] (by rfl) fun _ K5 => ?_; simp (disch := omega) only [go_sem]; refine K5 _ ?_; clear K5; refine pwp_cond (b := _) (by rfl) (fun hb1 => ?_) (fun hb1 => ?_)
    · first | replace hb1 := of_decide_eq_true hb1 | skip
      refine pwx_sr 0 [] (by rfl) fun _ K6 => ?_; simp (disch := omega) only [go_sem]; refine K6 _ ?_; clear K6; refine pwp_ret ?_; refine r_then ?_; refine ⟨Or.inr rfl, ?_⟩; simp (disch := omega) only [go_sem]
      all_goals first | trivial | (rw [prF_n (by omega)]; exact ⟨⟨rfl, rfl⟩, rfl⟩) | (rw [prF_y (by omega) (by omega)]; exact ⟨⟨rfl, rfl⟩, rfl⟩) | contradiction
    · first | replace hb1 := of_decide_eq_false hb1 | skip
      refine pwp_skip ?_; refine n_then ?_; refine pwx_sr 0 [] (by rfl) fun _ K7 => ?_; simp (disch := omega) only [go_sem]; refine K7 _ ?_; clear K7; refine pwp_ret ?_; refine ⟨Or.inr rfl, ?_⟩; simp (disch := omega) only [go_sem]
      all_goals first | trivial | (rw [prF_n (by omega)]; exact ⟨⟨rfl, rfl⟩, rfl⟩) | (rw [prF_y (by omega) (by omega)]; exact ⟨⟨rfl, rfl⟩, rfl⟩) | contradiction
set_option maxHeartbeats 4000000 in
theorem c_filter_Sign (i : Iv) :
    Ret Tryz.prog 83 [.a [.int .i64 i.lo, .int .i64 i.hi]] (.t [.c (.int .i64 (siF i).1), .c (.bool (siF i).2)]) := by
  refine ret_of_body (md := {}) Tryz.func83 (by kernel_rfl) rfl ?_; simp only [Tryz.f83, go_sem, Nat.reduceAdd, Nat.reduceSub, List.reduceReplicate]; refine pwx_sr 1 [] (by rfl) fun _ K1 => ?_; simp (disch := omega) only [go_sem]; refine K1 _ ?_; clear K1; refine pwp_seq ?_; refine pwp_block ?_; refine pwx_sr 0 [] (by rfl) fun _ K2 => ?_; simp (disch := omega) only [go_sem]; refine K2 _ ?_; clear K2; refine pwp_cond (b := _) (by rfl) (fun hb0 => ?_) (fun hb0 => ?_)
  · first | replace hb0 := of_decide_eq_true hb0 | skip
    refine pwx_sr 0 [] (by rfl) fun _ K3 => ?_; simp (disch := omega) only [go_sem]; refine K3 _ ?_; clear K3; refine pwp_ret ?_; refine r_block ?_; refine r_then ?_; refine ⟨Or.inr rfl, ?_⟩; simp (disch := omega) only [go_sem]
    rw [siF_1 hb0]; exact ⟨rfl, rfl⟩
  · first | replace hb0 := of_decide_eq_false hb0 | skip
    refine pwx_sr 0 [] (by rfl) fun _ K4 => ?_; simp (disch := omega) only [go_sem]; refine K4 _ ?_; clear K4; refine pwp_cond (b := _) (by rfl) (fun hb1 => ?_) (fun hb1 => ?_)
    · first | replace hb1 := of_decide_eq_true hb1 | skip
      refine pwx_sr 0 [] (by rfl) fun _ K5 => ?_; simp (disch := omega) only [go_sem]; refine K5 _ ?_; clear K5; refine pwp_ret ?_; refine r_block ?_; refine r_then ?_; refine ⟨Or.inr rfl, ?_⟩; simp (disch := omega) only [go_sem]
      rw [siF_2 hb0 hb1]; exact ⟨rfl, rfl⟩
    · first | replace hb1 := of_decide_eq_false hb1 | skip
      refine pwp_skip ?_; refine n_block ?_; refine n_then ?_; by_cases h0 : i.lo = 0
      · refine pwx_sd Tryz.mixed 0 [some 12, some 13, some 14, some 15, some 16, some 17, some 18, some 19, some 2, some 3] (by rfl) [] (by kernel_rfl) (by simp) fun _ K6 => ?_; simp (disch := omega) only [go_sem]; refine K6 _ ?_; clear K6; refine pwp_ret ?_; refine ⟨Or.inr rfl, ?_⟩; simp (disch := omega) only [go_sem]
        rw [siF_3 hb0 hb1, h0]; exact ⟨rfl, by simp⟩
      · refine pwx_sd Tryz.mixed 0 [some 12, some 13, some 14, some 15, some 16, some 17, some 18, some 19, some 2, some 3] (by rfl) [] (by kernel_rfl) (by simp) fun _ K7 => ?_; simp (disch := omega) only [go_sem]; refine K7 _ ?_; clear K7; refine pwp_ret ?_; refine ⟨Or.inr rfl, ?_⟩; simp (disch := omega) only [go_sem]
        rw [siF_3 hb0 hb1, decide_eq_false h0]; exact ⟨rfl, rfl⟩

end Go.Proofs.YtdojhoegildiaaaGreat

set_option linter.unusedSimpArgs false
set_option linter.unusedVariables false
set_option maxRecDepth 20000
namespace Go.Proofs.YtdojhoegildiaaaGreat
open Go Go.PL Go.RL
set_option maxHeartbeats 4000000 in
theorem c_filter_scaled (x y : Int) (hx : -2305843009213693952 ≤ x) (hx' : x ≤ 2305843009213693952) (hy : -2305843009213693952 ≤ y) (hy' : y ≤ 2305843009213693952) :
    Ret Tryz.prog 116 [.c (.int .i64 x), .c (.int .i64 y)] (.t [.c (.int .i64 (scF x y).lo), .c (.int .i64 (scF x y).hi), .c (.bool (scF x y).ok)]) := by
  refine ret_of_body (md := {}) Tryz.func116 (by kernel_rfl) rfl ?_; simp only [Tryz.f116, go_sem, Nat.reduceAdd, Nat.reduceSub, List.reduceReplicate]; refine pwx_sr 0 [] (by rfl) fun _ K1 => ?_; simp (disch := omega) only [go_sem]; refine K1 _ ?_; clear K1; refine pwx_sr 0 [] (by rfl) fun _ K2 => ?_; refine rgnX_take 2 fun _ K3 => ?_; simp (disch := omega) only [go_sem]; refine ⟨_, c_filter_abs _ (by omega) (by omega), ?_⟩; refine K3 _ ?_; refine rgnX_take 2 fun _ K4 => ?_; simp (disch := omega) only [go_sem]; refine ⟨_, c_filter_abs _ (by omega) (by omega), ?_⟩; refine K4 _ ?_; refine rgnX_take 1 fun _ K5 => ?_; simp (disch := omega) only [go_sem]; refine ⟨_, c_bits_Mul64 _ _ (by omega) (by omega), ?_⟩; refine K5 _ ?_; simp (disch := omega) only [go_sem]; refine K2 _ ?_; clear K5 K4 K3 K2; refine pwp_seq ?_; refine pwx_sr 0 [] (by rfl) fun _ K6 => ?_; simp (disch := omega) only [go_sem]; refine K6 _ ?_; clear K6; refine pwp_cond (b := _) (by rfl) (fun hb0 => ?_) (fun hb0 => ?_)
  · have hq0 := nz_t hb0; refine pwx_sr 0 [] (by rfl) fun _ K7 => ?_; simp (disch := omega) only [go_sem]; refine K7 _ ?_; clear K7; refine pwp_ret ?_; refine r_then ?_; refine ⟨Or.inr rfl, ?_⟩; simp (disch := omega) only [go_sem]
    all_goals first | trivial | (rw [scF_a hq0]; exact ⟨rfl, rfl, rfl⟩) | (rw [scF_b (by omega) (by omega)]; exact ⟨rfl, rfl, rfl⟩) | (obtain ⟨e1, e2, e3⟩ := scF_t (k := 0) hq0 hb1 (by assumption) (by assumption) rfl; rw [e1, e2]; refine ⟨by omega, by omega, ?_⟩; first | exact (dec_two e3).1 (by omega) | exact (dec_two e3).2 (by omega)) | (obtain ⟨e1, e2, e3⟩ := scF_t (k := 1) hq0 hb1 (by assumption) (by assumption) rfl; rw [e1, e2]; refine ⟨by omega, by omega, ?_⟩; first | exact (dec_two e3).1 (by omega) | exact (dec_two e3).2 (by omega)) | (obtain ⟨e1, e2, e3⟩ := scF_f (k := 0) hq0 hb1 (by assumption) (by assumption) rfl; rw [e1, e2]; refine ⟨by omega, by omega, ?_⟩; first | exact (dec_two e3).1 (by omega) | exact (dec_two e3).2 (by omega)) | (obtain ⟨e1, e2, e3⟩ := scF_f (k := 1) hq0 hb1 (by assumption) (by assumption) rfl; rw [e1, e2]; refine ⟨by omega, by omega, ?_⟩; first | exact (dec_two e3).1 (by omega) | exact (dec_two e3).2 (by omega))
  · have hq0 := nz_f hb0
    have hq1 : x.natAbs * y.natAbs / 18446744073709551616 < 65536 := by omega
    refine pwp_skip ?_; refine n_then ?_; refine pwx_sr 0 [] (by rfl) fun _ K8 => ?_; simp (disch := omega) only [go_sem, scq]; refine K8 _ ?_; clear K8; refine pwp_seq ?_; refine pwx_sr 0 [] (by rfl) fun _ K9 => ?_; simp (disch := omega) only [go_sem]; refine K9 _ ?_; clear K9; refine pwp_cond (b := _) (by rfl) (fun hb1 => ?_) (fun hb1 => ?_)
    · replace hb1 := of_decide_eq_true hb1; refine pwx_sr 0 [] (by rfl) fun _ K10 => ?_; simp (disch := omega) only [go_sem]; refine K10 _ ?_; clear K10; refine pwp_ret ?_; refine r_then ?_; refine ⟨Or.inr rfl, ?_⟩; simp (disch := omega) only [go_sem]
      all_goals first | trivial | (rw [scF_a hq0]; exact ⟨rfl, rfl, rfl⟩) | (rw [scF_b (by omega) (by omega)]; exact ⟨rfl, rfl, rfl⟩) | (obtain ⟨e1, e2, e3⟩ := scF_t (k := 0) hq0 hb1 (by assumption) (by assumption) rfl; rw [e1, e2]; refine ⟨by omega, by omega, ?_⟩; first | exact (dec_two e3).1 (by omega) | exact (dec_two e3).2 (by omega)) | (obtain ⟨e1, e2, e3⟩ := scF_t (k := 1) hq0 hb1 (by assumption) (by assumption) rfl; rw [e1, e2]; refine ⟨by omega, by omega, ?_⟩; first | exact (dec_two e3).1 (by omega) | exact (dec_two e3).2 (by omega)) | (obtain ⟨e1, e2, e3⟩ := scF_f (k := 0) hq0 hb1 (by assumption) (by assumption) rfl; rw [e1, e2]; refine ⟨by omega, by omega, ?_⟩; first | exact (dec_two e3).1 (by omega) | exact (dec_two e3).2 (by omega)) | (obtain ⟨e1, e2, e3⟩ := scF_f (k := 1) hq0 hb1 (by assumption) (by assumption) rfl; rw [e1, e2]; refine ⟨by omega, by omega, ?_⟩; first | exact (dec_two e3).1 (by omega) | exact (dec_two e3).2 (by omega))
    · replace hb1 := of_decide_eq_false hb1; refine pwp_skip ?_; refine n_then ?_; refine pwx_sr 0 [] (by rfl) fun _ K11 => ?_; simp (disch := omega) only [go_sem]; refine K11 _ ?_; clear K11; refine pwp_seq ?_; refine pwx_sr 0 [] (by rfl) fun _ K12 => ?_; simp (disch := omega) only [go_sem]; refine K12 _ ?_; clear K12; refine pwp_cond (b := _) (by rfl) (fun hb2 => ?_) (fun hb2 => ?_)
      · first | replace hb2 := of_decide_eq_true hb2 | skip
        refine pwx_region 0 [] (by rfl) fun _ K13 => ?_; simp (disch := omega) only [go_sem]; refine K13 _ ?_; clear K13; refine n_then ?_; refine pwp_seq ?_; refine pwx_sr 0 [] (by rfl) fun _ K14 => ?_; simp (disch := omega) only [go_sem]; refine K14 _ ?_; clear K14; refine pwp_cond (b := _) (by rfl) (fun hb3 => ?_) (fun hb3 => ?_)
        · first | replace hb3 := of_decide_eq_true hb3 | skip
          refine pwx_region 0 [] (by rfl) fun _ K15 => ?_; simp (disch := omega) only [go_sem]; refine K15 _ ?_; clear K15; refine n_then ?_; by_cases hE : x.natAbs * y.natAbs / 65536 = 2305843009213693952
          · refine pwx_sr 0 [some 48, some 49, some 50, some 51, some 52, some 53, some 54, some 55, some 4, some 5, some 6] (by rfl) fun _ K16 => ?_; simp (disch := omega) only [go_sem, le_T, le_F]; refine K16 _ ?_; clear K16; refine pwp_ret ?_; refine ⟨Or.inr rfl, ?_⟩; simp (disch := omega) only [go_sem]
            all_goals first | trivial | (rw [scF_a hq0]; exact ⟨rfl, rfl, rfl⟩) | (rw [scF_b (by omega) (by omega)]; exact ⟨rfl, rfl, rfl⟩) | (obtain ⟨e1, e2, e3⟩ := scF_t (k := 0) hq0 hb1 (by assumption) (by assumption) rfl; rw [e1, e2]; refine ⟨by omega, by omega, ?_⟩; first | exact (dec_two e3).1 (by omega) | exact (dec_two e3).2 (by omega)) | (obtain ⟨e1, e2, e3⟩ := scF_t (k := 1) hq0 hb1 (by assumption) (by assumption) rfl; rw [e1, e2]; refine ⟨by omega, by omega, ?_⟩; first | exact (dec_two e3).1 (by omega) | exact (dec_two e3).2 (by omega)) | (obtain ⟨e1, e2, e3⟩ := scF_f (k := 0) hq0 hb1 (by assumption) (by assumption) rfl; rw [e1, e2]; refine ⟨by omega, by omega, ?_⟩; first | exact (dec_two e3).1 (by omega) | exact (dec_two e3).2 (by omega)) | (obtain ⟨e1, e2, e3⟩ := scF_f (k := 1) hq0 hb1 (by assumption) (by assumption) rfl; rw [e1, e2]; refine ⟨by omega, by omega, ?_⟩; first | exact (dec_two e3).1 (by omega) | exact (dec_two e3).2 (by omega))
          · refine pwx_sr 0 [some 48, some 49, some 50, some 51, some 52, some 53, some 54, some 55, some 4, some 5, some 6] (by rfl) fun _ K17 => ?_; simp (disch := omega) only [go_sem, le_T, le_F]; refine K17 _ ?_; clear K17; refine pwp_ret ?_; refine ⟨Or.inr rfl, ?_⟩; simp (disch := omega) only [go_sem]
            all_goals first | trivial | (rw [scF_a hq0]; exact ⟨rfl, rfl, rfl⟩) | (rw [scF_b (by omega) (by omega)]; exact ⟨rfl, rfl, rfl⟩) | (obtain ⟨e1, e2, e3⟩ := scF_t (k := 0) hq0 hb1 (by assumption) (by assumption) rfl; rw [e1, e2]; refine ⟨by omega, by omega, ?_⟩; first | exact (dec_two e3).1 (by omega) | exact (dec_two e3).2 (by omega)) | (obtain ⟨e1, e2, e3⟩ := scF_t (k := 1) hq0 hb1 (by assumption) (by assumption) rfl; rw [e1, e2]; refine ⟨by omega, by omega, ?_⟩; first | exact (dec_two e3).1 (by omega) | exact (dec_two e3).2 (by omega)) | (obtain ⟨e1, e2, e3⟩ := scF_f (k := 0) hq0 hb1 (by assumption) (by assumption) rfl; rw [e1, e2]; refine ⟨by omega, by omega, ?_⟩; first | exact (dec_two e3).1 (by omega) | exact (dec_two e3).2 (by omega)) | (obtain ⟨e1, e2, e3⟩ := scF_f (k := 1) hq0 hb1 (by assumption) (by assumption) rfl; rw [e1, e2]; refine ⟨by omega, by omega, ?_⟩; first | exact (dec_two e3).1 (by omega) | exact (dec_two e3).2 (by omega))
        · first | replace hb3 := of_decide_eq_false hb3 | skip
          refine pwp_skip ?_; refine n_then ?_; by_cases hE : x.natAbs * y.natAbs / 65536 = 2305843009213693952
          · refine pwx_sr 0 [some 48, some 49, some 50, some 51, some 52, some 53, some 54, some 55, some 4, some 5, some 6] (by rfl) fun _ K18 => ?_; simp (disch := omega) only [go_sem, le_T, le_F]; refine K18 _ ?_; clear K18; refine pwp_ret ?_; refine ⟨Or.inr rfl, ?_⟩; simp (disch := omega) only [go_sem]
            all_goals first | trivial | (rw [scF_a hq0]; exact ⟨rfl, rfl, rfl⟩) | (rw [scF_b (by omega) (by omega)]; exact ⟨rfl, rfl, rfl⟩) | (obtain ⟨e1, e2, e3⟩ := scF_t (k := 0) hq0 hb1 (by assumption) (by assumption) rfl; rw [e1, e2]; refine ⟨by omega, by omega, ?_⟩; first | exact (dec_two e3).1 (by omega) | exact (dec_two e3).2 (by omega)) | (obtain ⟨e1, e2, e3⟩ := scF_t (k := 1) hq0 hb1 (by assumption) (by assumption) rfl; rw [e1, e2]; refine ⟨by omega, by omega, ?_⟩; first | exact (dec_two e3).1 (by omega) | exact (dec_two e3).2 (by omega)) | (obtain ⟨e1, e2, e3⟩ := scF_f (k := 0) hq0 hb1 (by assumption) (by assumption) rfl; rw [e1, e2]; refine ⟨by omega, by omega, ?_⟩; first | exact (dec_two e3).1 (by omega) | exact (dec_two e3).2 (by omega)) | (obtain ⟨e1, e2, e3⟩ := scF_f (k := 1) hq0 hb1 (by assumption) (by assumption) rfl; rw [e1, e2]; refine ⟨by omega, by omega, ?_⟩; first | exact (dec_two e3).1 (by omega) | exact (dec_two e3).2 (by omega))
          · refine pwx_sr 0 [some 48, some 49, some 50, some 51, some 52, some 53, some 54, some 55, some 4, some 5, some 6] (by rfl) fun _ K19 => ?_; simp (disch := omega) only [go_sem, le_T, le_F]; refine K19 _ ?_; clear K19; refine pwp_ret ?_; refine ⟨Or.inr rfl, ?_⟩; simp (disch := omega) only [go_sem]
            all_goals first | trivial | (rw [scF_a hq0]; exact ⟨rfl, rfl, rfl⟩) | (rw [scF_b (by omega) (by omega)]; exact ⟨rfl, rfl, rfl⟩) | (obtain ⟨e1, e2, e3⟩ := scF_t (k := 0) hq0 hb1 (by assumption) (by assumption) rfl; rw [e1, e2]; refine ⟨by omega, by omega, ?_⟩; first | exact (dec_two e3).1 (by omega) | exact (dec_two e3).2 (by omega)) | (obtain ⟨e1, e2, e3⟩ := scF_t (k := 1) hq0 hb1 (by assumption) (by assumption) rfl; rw [e1, e2]; refine ⟨by omega, by omega, ?_⟩; first | exact (dec_two e3).1 (by omega) | exact (dec_two e3).2 (by omega)) | (obtain ⟨e1, e2, e3⟩ := scF_f (k := 0) hq0 hb1 (by assumption) (by assumption) rfl; rw [e1, e2]; refine ⟨by omega, by omega, ?_⟩; first | exact (dec_two e3).1 (by omega) | exact (dec_two e3).2 (by omega)) | (obtain ⟨e1, e2, e3⟩ := scF_f (k := 1) hq0 hb1 (by assumption) (by assumption) rfl; rw [e1, e2]; refine ⟨by omega, by omega, ?_⟩; first | exact (dec_two e3).1 (by omega) | exact (dec_two e3).2 (by omega))
      · first | replace hb2 := of_decide_eq_false hb2 | skip
        refine pwp_skip ?_; refine n_then ?_; refine pwp_seq ?_; refine pwx_sr 0 [] (by rfl) fun _ K20 => ?_; simp (disch := omega) only [go_sem]; refine K20 _ ?_; clear K20; refine pwp_cond (b := _) (by rfl) (fun hb4 => ?_) (fun hb4 => ?_)
        · first | replace hb4 := of_decide_eq_true hb4 | skip
          refine pwx_region 0 [] (by rfl) fun _ K21 => ?_; simp (disch := omega) only [go_sem]; refine K21 _ ?_; clear K21; refine n_then ?_; by_cases hE : x.natAbs * y.natAbs / 65536 = 2305843009213693952
          · refine pwx_sr 0 [some 48, some 49, some 50, some 51, some 52, some 53, some 54, some 55, some 4, some 5, some 6] (by rfl) fun _ K22 => ?_; simp (disch := omega) only [go_sem, le_T, le_F]; refine K22 _ ?_; clear K22; refine pwp_ret ?_; refine ⟨Or.inr rfl, ?_⟩; simp (disch := omega) only [go_sem]
            all_goals first | trivial | (rw [scF_a hq0]; exact ⟨rfl, rfl, rfl⟩) | (rw [scF_b (by omega) (by omega)]; exact ⟨rfl, rfl, rfl⟩) | (obtain ⟨e1, e2, e3⟩ := scF_t (k := 0) hq0 hb1 (by assumption) (by assumption) rfl; rw [e1, e2]; refine ⟨by omega, by omega, ?_⟩; first | exact (dec_two e3).1 (by omega) | exact (dec_two e3).2 (by omega)) | (obtain ⟨e1, e2, e3⟩ := scF_t (k := 1) hq0 hb1 (by assumption) (by assumption) rfl; rw [e1, e2]; refine ⟨by omega, by omega, ?_⟩; first | exact (dec_two e3).1 (by omega) | exact (dec_two e3).2 (by omega)) | (obtain ⟨e1, e2, e3⟩ := scF_f (k := 0) hq0 hb1 (by assumption) (by assumption) rfl; rw [e1, e2]; refine ⟨by omega, by omega, ?_⟩; first | exact (dec_two e3).1 (by omega) | exact (dec_two e3).2 (by omega)) | (obtain ⟨e1, e2, e3⟩ := scF_f (k := 1) hq0 hb1 (by assumption) (by assumption) rfl; rw [e1, e2]; refine ⟨by omega, by omega, ?_⟩; first | exact (dec_two e3).1 (by omega) | exact (dec_two e3).2 (by omega))
          · refine pwx_sr 0 [some 48, some 49, some 50, some 51, some 52, some 53, some 54, some 55, some 4, some 5, some 6] (by rfl) fun _ K23 => ?_; simp (disch := omega) only [go_sem, le_T, le_F]; refine K23 _ ?_; clear K23; refine pwp_ret ?_; refine ⟨Or.inr rfl, ?_⟩; simp (disch := omega) only [go_sem]
            all_goals first | trivial | (rw [scF_a hq0]; exact ⟨rfl, rfl, rfl⟩) | (rw [scF_b (by omega) (by omega)]; exact ⟨rfl, rfl, rfl⟩) | (obtain ⟨e1, e2, e3⟩ := scF_t (k := 0) hq0 hb1 (by assumption) (by assumption) rfl; rw [e1, e2]; refine ⟨by omega, by omega, ?_⟩; first | exact (dec_two e3).1 (by omega) | exact (dec_two e3).2 (by omega)) | (obtain ⟨e1, e2, e3⟩ := scF_t (k := 1) hq0 hb1 (by assumption) (by assumption) rfl; rw [e1, e2]; refine ⟨by omega, by omega, ?_⟩; first | exact (dec_two e3).1 (by omega) | exact (dec_two e3).2 (by omega)) | (obtain ⟨e1, e2, e3⟩ := scF_f (k := 0) hq0 hb1 (by assumption) (by assumption) rfl; rw [e1, e2]; refine ⟨by omega, by omega, ?_⟩; first | exact (dec_two e3).1 (by omega) | exact (dec_two e3).2 (by omega)) | (obtain ⟨e1, e2, e3⟩ := scF_f (k := 1) hq0 hb1 (by assumption) (by assumption) rfl; rw [e1, e2]; refine ⟨by omega, by omega, ?_⟩; first | exact (dec_two e3).1 (by omega) | exact (dec_two e3).2 (by omega))
        · first | replace hb4 := of_decide_eq_false hb4 | skip
          refine pwp_skip ?_; refine n_then ?_; by_cases hE : x.natAbs * y.natAbs / 65536 = 2305843009213693952
          · refine pwx_sr 0 [some 48, some 49, some 50, some 51, some 52, some 53, some 54, some 55, some 4, some 5, some 6] (by rfl) fun _ K24 => ?_; simp (disch := omega) only [go_sem, le_T, le_F]; refine K24 _ ?_; clear K24; refine pwp_ret ?_; refine ⟨Or.inr rfl, ?_⟩; simp (disch := omega) only [go_sem]
            all_goals first | trivial | (rw [scF_a hq0]; exact ⟨rfl, rfl, rfl⟩) | (rw [scF_b (by omega) (by omega)]; exact ⟨rfl, rfl, rfl⟩) | (obtain ⟨e1, e2, e3⟩ := scF_t (k := 0) hq0 hb1 (by assumption) (by assumption) rfl; rw [e1, e2]; refine ⟨by omega, by omega, ?_⟩; first | exact (dec_two e3).1 (by omega) | exact (dec_two e3).2 (by omega)) | (obtain ⟨e1, e2, e3⟩ := scF_t (k := 1) hq0 hb1 (by assumption) (by assumption) rfl; rw [e1, e2]; refine ⟨by omega, by omega, ?_⟩; first | exact (dec_two e3).1 (by omega) | exact (dec_two e3).2 (by omega)) | (obtain ⟨e1, e2, e3⟩ := scF_f (k := 0) hq0 hb1 (by assumption) (by assumption) rfl; rw [e1, e2]; refine ⟨by omega, by omega, ?_⟩; first | exact (dec_two e3).1 (by omega) | exact (dec_two e3).2 (by omega)) | (obtain ⟨e1, e2, e3⟩ := scF_f (k := 1) hq0 hb1 (by assumption) (by assumption) rfl; rw [e1, e2]; refine ⟨by omega, by omega, ?_⟩; first | exact (dec_two e3).1 (by omega) | exact (dec_two e3).2 (by omega))
          · refine pwx_sr 0 [some 48, some 49, some 50, some 51, some 52, some 53, some 54, some 55, some 4, some 5, some 6] (by rfl) fun _ K25 => ?_; simp (disch := omega) only [go_sem, le_T, le_F]; refine K25 _ ?_; clear K25; refine pwp_ret ?_; refine ⟨Or.inr rfl, ?_⟩; simp (disch := omega) only [go_sem]
            all_goals first | trivial | (rw [scF_a hq0]; exact ⟨rfl, rfl, rfl⟩) | (rw [scF_b (by omega) (by omega)]; exact ⟨rfl, rfl, rfl⟩) | (obtain ⟨e1, e2, e3⟩ := scF_t (k := 0) hq0 hb1 (by assumption) (by assumption) rfl; rw [e1, e2]; refine ⟨by omega, by omega, ?_⟩; first | exact (dec_two e3).1 (by omega) | exact (dec_two e3).2 (by omega)) | (obtain ⟨e1, e2, e3⟩ := scF_t (k := 1) hq0 hb1 (by assumption) (by assumption) rfl; rw [e1, e2]; refine ⟨by omega, by omega, ?_⟩; first | exact (dec_two e3).1 (by omega) | exact (dec_two e3).2 (by omega)) | (obtain ⟨e1, e2, e3⟩ := scF_f (k := 0) hq0 hb1 (by assumption) (by assumption) rfl; rw [e1, e2]; refine ⟨by omega, by omega, ?_⟩; first | exact (dec_two e3).1 (by omega) | exact (dec_two e3).2 (by omega)) | (obtain ⟨e1, e2, e3⟩ := scF_f (k := 1) hq0 hb1 (by assumption) (by assumption) rfl; rw [e1, e2]; refine ⟨by omega, by omega, ?_⟩; first | exact (dec_two e3).1 (by omega) | exact (dec_two e3).2 (by omega))

end Go.Proofs.YtdojhoegildiaaaGreat

set_option linter.unusedSimpArgs false
set_option linter.unusedVariables false
set_option maxRecDepth 20000
namespace Go.Proofs.YtdojhoegildiaaaGreat
open Go Go.PL Go.RL
set_option maxHeartbeats 4000000 in
theorem c_filter_Add (i j : Iv) (hi : i.Bd) (hj : j.Bd) :
    Ret Tryz.prog 82 [.a [.int .i64 i.lo, .int .i64 i.hi], .a [.int .i64 j.lo, .int .i64 j.hi]] (.t [.a [.int .i64 (adF i j).lo, .int .i64 (adF i j).hi], .c (.bool (adF i j).ok)]) := by
  refine ret_of_body (md := {}) Tryz.func82 (by kernel_rfl) rfl ?_; simp only [Tryz.f82, go_sem, Nat.reduceAdd, Nat.reduceSub, List.reduceReplicate]; obtain ⟨i1, i2, i3⟩ := hi; obtain ⟨j1, j2, j3⟩ := hj; refine pwx_sr 3 [] (by rfl) fun _ K1 => ?_; simp (disch := omega) only [go_sem]; refine K1 _ ?_; clear K1; refine pwx_sr 0 [] (by rfl) fun _ K2 => ?_; refine rgnX_take 11 fun _ K3 => ?_; simp (disch := omega) only [go_sem]; refine ⟨_, c_filter_proper _ _, ?_⟩; refine K3 _ ?_; simp (disch := omega) only [go_sem]; refine K2 _ ?_; clear K3 K2; refine pwp_ret ?_; refine ⟨Or.inr rfl, ?_⟩; simp (disch := omega) only [go_sem]
  all_goals exact ⟨⟨rfl, rfl⟩, rfl⟩
set_option maxHeartbeats 4000000 in
theorem c_filter_FromRat (a : Rat) {k : Nat} [SzR a k] (hk : k ≤ 20000) :
    Ret Tryz.prog 80 [.a (ratC a)] (.t [.a [.int .i64 (frF a).lo, .int .i64 (frF a).hi], .c (.bool (frF a).ok)]) := by
  refine ret_of_body (md := {}) Tryz.func80 (by kernel_rfl) rfl ?_; simp only [Tryz.f80, go_sem, Nat.reduceAdd, Nat.reduceSub, List.reduceReplicate]; refine pwx_sr 2 [] (by rfl) fun _ K1 => ?_; simp (disch := omega) only [go_sem]; refine K1 _ ?_; clear K1; refine pwx_sd Tryz.mixed 1 [] (by rfl) [] (by kernel_rfl) (by simp) fun _ K2 => ?_; refine rgnX_take 2 fun _ K3 => ?_; simp (disch := omega) only [go_sem, ic65536]; refine ⟨_, c_rational_FromInt64 _ (by omega) (by omega), ?_⟩; refine K3 _ ?_; refine rgnX_take 1 fun _ K4 => ?_; simp (disch := omega) only [go_sem, ic65536]; refine ⟨_, c_rational_Mul _ _ (by omega), ?_⟩; refine K4 _ ?_; simp (disch := omega) only [go_sem, ic65536]; refine K2 _ ?_; clear K4 K3 K2; refine pwx_sr 0 [] (by rfl) fun _ K5 => ?_; refine rgnX_take 2 fun _ K6 => ?_; simp (disch := omega) only [go_sem]; refine ⟨_, c_rational_Floor _ (by omega), ?_⟩; refine K6 _ ?_; refine rgnX_take 1 fun _ K7 => ?_; simp (disch := omega) only [go_sem]; refine ⟨_, c_integer_Int64 _ szi, ?_⟩; refine K7 _ ?_; simp (disch := omega) only [go_sem]; refine K5 _ ?_; clear K7 K6 K5; refine pwx_sr 0 [] (by rfl) fun _ K8 => ?_; refine rgnX_take 2 fun _ K9 => ?_; simp (disch := omega) only [go_sem]; refine ⟨_, c_rational_Neg _ (by omega), ?_⟩; refine K9 _ ?_; refine rgnX_take 1 fun _ K10 => ?_; simp (disch := omega) only [go_sem]; refine ⟨_, c_rational_Floor _ (by omega), ?_⟩; refine K10 _ ?_; refine rgnX_take 1 fun _ K11 => ?_; simp (disch := omega) only [go_sem]; refine ⟨_, c_integer_Neg _ szi, ?_⟩; refine K11 _ ?_; refine rgnX_take 1 fun _ K12 => ?_; simp (disch := omega) only [go_sem]; refine ⟨_, c_integer_Int64 _ szi, ?_⟩; refine K12 _ ?_; simp (disch := omega) only [go_sem]; refine K8 _ ?_; clear K12 K11 K10 K9 K8; refine pwp_seq ?_
  rcases h1 : fit64 (a * 65536).floor with _ | _ <;> rcases h2 : fit64 (-(-(a * 65536)).floor) with _ | _
  · refine pwx_sr 0 [some 26, some 27, some 28, some 29, some 30, some 31] (by rfl) fun _ K13 => ?_; simp (disch := omega) only [go_sem, h1, h2]; refine K13 _ ?_; clear K13; refine pwp_cond (b := true) (by rfl) (fun _ => ?_) (fun h => nomatch h); refine pwx_sr 0 [] (by rfl) fun _ K14 => ?_; simp (disch := omega) only [go_sem]; refine K14 _ ?_; clear K14; refine pwp_ret ?_; refine r_then ?_; refine ⟨Or.inr rfl, ?_⟩; simp (disch := omega) only [go_sem]
    all_goals first | (rw [frF_1 h1]; exact ⟨⟨rfl, rfl⟩, rfl⟩) | (rw [frF_2 h2]; exact ⟨⟨rfl, rfl⟩, rfl⟩) | (rw [frF_y h1 h2]; exact ⟨⟨rfl, rfl⟩, rfl⟩)
  · refine pwx_sr 0 [some 26, some 27, some 28, some 29, some 30, some 31] (by rfl) fun _ K15 => ?_; simp (disch := omega) only [go_sem, h1, h2]; refine K15 _ ?_; clear K15; refine pwp_cond (b := true) (by rfl) (fun _ => ?_) (fun h => nomatch h); refine pwx_sr 0 [] (by rfl) fun _ K16 => ?_; simp (disch := omega) only [go_sem]; refine K16 _ ?_; clear K16; refine pwp_ret ?_; refine r_then ?_; refine ⟨Or.inr rfl, ?_⟩; simp (disch := omega) only [go_sem]
    all_goals first | (rw [frF_1 h1]; exact ⟨⟨rfl, rfl⟩, rfl⟩) | (rw [frF_2 h2]; exact ⟨⟨rfl, rfl⟩, rfl⟩) | (rw [frF_y h1 h2]; exact ⟨⟨rfl, rfl⟩, rfl⟩)
  · refine pwx_sr 0 [some 26, some 27, some 28, some 29, some 30, some 31] (by rfl) fun _ K17 => ?_; simp (disch := omega) only [go_sem, h1, h2]; refine K17 _ ?_; clear K17; refine pwp_cond (b := true) (by rfl) (fun _ => ?_) (fun h => nomatch h); refine pwx_sr 0 [] (by rfl) fun _ K18 => ?_; simp (disch := omega) only [go_sem]; refine K18 _ ?_; clear K18; refine pwp_ret ?_; refine r_then ?_; refine ⟨Or.inr rfl, ?_⟩; simp (disch := omega) only [go_sem]
    all_goals first | (rw [frF_1 h1]; exact ⟨⟨rfl, rfl⟩, rfl⟩) | (rw [frF_2 h2]; exact ⟨⟨rfl, rfl⟩, rfl⟩) | (rw [frF_y h1 h2]; exact ⟨⟨rfl, rfl⟩, rfl⟩)
  · refine pwx_sr 0 [some 26, some 27, some 28, some 29, some 30, some 31] (by rfl) fun _ K19 => ?_; simp (disch := omega) only [go_sem, h1, h2]; refine K19 _ ?_; clear K19; refine pwp_cond (b := false) (by rfl) (fun h => nomatch h) (fun _ => ?_); refine pwp_skip ?_; refine n_then ?_; refine pwx_sr 0 [] (by rfl) fun _ K20 => ?_; refine rgnX_take 3 fun _ K21 => ?_; simp (disch := omega) only [go_sem, h1, h2]; refine ⟨_, c_filter_proper _ _, ?_⟩; refine K21 _ ?_; simp (disch := omega) only [go_sem, h1, h2]; refine K20 _ ?_; clear K21 K20; refine pwp_ret ?_; refine ⟨Or.inr rfl, ?_⟩; simp (disch := omega) only [go_sem]
    all_goals first | (rw [frF_1 h1]; exact ⟨⟨rfl, rfl⟩, rfl⟩) | (rw [frF_2 h2]; exact ⟨⟨rfl, rfl⟩, rfl⟩) | (rw [frF_y h1 h2]; exact ⟨⟨rfl, rfl⟩, rfl⟩)
set_option maxHeartbeats 4000000 in
theorem c_filter_root (n : Int) (hn : 0 ≤ n) (hn' : n ≤ 2305843009213693952) :
    Ret Tryz.prog 112 [.c (.int .i64 n)] (.t [.c (.int .i64 (sqrtI (n * 65536))), .c (.bool (decide (sqrtI (n * 65536) * sqrtI (n * 65536) = n * 65536)))]) := by
  refine ret_of_body (md := {}) Tryz.func112 (by kernel_rfl) rfl ?_; simp only [Tryz.f112, go_sem, Nat.reduceAdd, Nat.reduceSub, List.reduceReplicate]; haveI := szi_61 (show -2305843009213693953 ≤ n by omega) (show n ≤ 2305843009213693953 by omega); obtain ⟨h1, h2⟩ := sqrtI_61 hn hn'; have hf : fit64 (sqrtI (n * 65536)) = true := fit64_in (by omega) (by omega); refine pwx_sr 0 [] (by rfl) fun _ K1 => ?_; simp (disch := omega) only [go_sem]; refine K1 _ ?_; clear K1; refine pwx_sr 1 [] (by rfl) fun _ K2 => ?_; refine rgnX_take 2 fun _ K3 => ?_; simp (disch := omega) only [go_sem]; refine ⟨_, c_integer_FromInt64 _ (by omega) (by omega), ?_⟩; refine K3 _ ?_; refine rgnX_take 1 fun _ K4 => ?_; simp (disch := omega) only [go_sem]; refine ⟨_, c_integer_FromInt64 _ (by omega) (by omega), ?_⟩; refine K4 _ ?_; refine rgnX_take 1 fun _ K5 => ?_; simp (disch := omega) only [go_sem]; refine ⟨_, c_integer_Mul _ _ szi szi, ?_⟩; refine K5 _ ?_; simp (disch := omega) only [go_sem]; refine K2 _ ?_; clear K5 K4 K3 K2; refine pwx_sr 1 [] (by rfl) fun _ K6 => ?_; refine rgnX_take 2 fun _ K7 => ?_; simp (disch := omega) only [go_sem]; refine ⟨_, c_integer_Sqrt _ szi9, ?_⟩; refine K7 _ ?_; simp (disch := omega) only [go_sem]; refine K6 _ ?_; clear K7 K6; refine pwx_sr 0 [] (by rfl) fun _ K8 => ?_; refine rgnX_take 2 fun _ K9 => ?_; simp (disch := omega) only [go_sem]; refine ⟨_, c_integer_Int64 _ szi, ?_⟩; refine K9 _ ?_; simp (disch := omega) only [go_sem]; refine K8 _ ?_; clear K9 K8; refine pwx_sd Tryz.mixed 0 [] (by rfl) [] (by kernel_rfl) (by simp) fun _ K10 => ?_; refine rgnX_take 4 fun _ K11 => ?_; simp (disch := omega) only [go_sem]; refine ⟨_, c_integer_Mul _ _ szi szi, ?_⟩; refine K11 _ ?_; refine rgnX_take 2 fun _ K12 => ?_; simp (disch := omega) only [go_sem]; refine ⟨_, c_integer_Cmp _ _ szi szi, ?_⟩; refine K12 _ ?_; simp (disch := omega) only [go_sem]; refine K10 _ ?_; clear K12 K11 K10; refine pwp_ret ?_; refine ⟨Or.inr rfl, ?_⟩; simp (disch := omega) only [go_sem]
  all_goals rw [if_pos hf]
set_option maxHeartbeats 4000000 in
theorem c_filter_Sqrt (i : Iv) (hi : i.Bd) :
    Ret Tryz.prog 79 [.a [.int .i64 i.lo, .int .i64 i.hi]] (.t [.a [.int .i64 (sqF i).lo, .int .i64 (sqF i).hi], .c (.bool (sqF i).ok)]) := by
  refine ret_of_body (md := {}) Tryz.func79 (by kernel_rfl) rfl ?_; simp only [Tryz.f79, go_sem, Nat.reduceAdd, Nat.reduceSub, List.reduceReplicate]; obtain ⟨i1, i2, i3⟩ := hi; refine pwx_sr 2 [] (by rfl) fun _ K1 => ?_; simp (disch := omega) only [go_sem]; refine K1 _ ?_; clear K1; refine pwp_seq ?_; refine pwx_sr 0 [] (by rfl) fun _ K2 => ?_; simp (disch := omega) only [go_sem]; refine K2 _ ?_; clear K2; refine pwp_cond (b := _) (by rfl) (fun hb0 => ?_) (fun hb0 => ?_)
  · first | replace hb0 := of_decide_eq_true hb0 | skip
    refine pwx_sr 0 [] (by rfl) fun _ K3 => ?_; simp (disch := omega) only [go_sem]; refine K3 _ ?_; clear K3; refine pwp_ret ?_; refine r_then ?_; refine ⟨Or.inr rfl, ?_⟩; simp (disch := omega) only [go_sem]
    all_goals first | (rw [sqF_n hb0]; exact ⟨⟨rfl, rfl⟩, rfl⟩) | (rw [sqF_y hb0 hb1]; exact ⟨⟨rfl, rfl⟩, rfl⟩)
  · replace hb0 := of_decide_eq_false hb0
    have hm : 0 ≤ (if i.lo < 0 then 0 else i.lo) ∧ (if i.lo < 0 then 0 else i.lo) ≤ 2305843009213693952 := by split <;> omega
    obtain ⟨hm1, hm2⟩ := hm; obtain ⟨q1, q2⟩ := sqrtI_61 (z := i.hi) (by omega) (by omega); refine pwp_skip ?_; refine n_then ?_; refine pwx_sr 0 [] (by rfl) fun _ K4 => ?_; refine rgnX_take 4 fun _ K5 => ?_; simp (disch := omega) only [go_sem]; refine ⟨_, c_filter_root _ (by omega) (by omega), ?_⟩; refine K5 _ ?_; simp (disch := omega) only [go_sem]; refine K4 _ ?_; clear K5 K4; refine pwx_sr 0 [] (by rfl) fun _ K6 => ?_; refine rgnX_take 3 fun _ K7 => ?_; simp (disch := omega) only [go_sem]; refine ⟨_, c_filter_root _ (by omega) (by omega), ?_⟩; refine K7 _ ?_; simp (disch := omega) only [go_sem]; refine K6 _ ?_; clear K7 K6; refine pwp_seq ?_; refine pwx_sr 0 [] (by rfl) fun _ K8 => ?_; simp (disch := omega) only [go_sem]; refine K8 _ ?_; clear K8; refine pwp_cond (b := _) (by rfl) (fun hb1 => ?_) (fun hb1 => ?_)
    · replace hb1 := not_t hb1; refine pwx_region 0 [] (by rfl) fun _ K9 => ?_; simp (disch := omega) only [go_sem]; refine K9 _ ?_; clear K9; refine n_then ?_; refine pwx_sr 0 [] (by rfl) fun _ K10 => ?_; refine rgnX_take 3 fun _ K11 => ?_; simp (disch := omega) only [go_sem]; refine ⟨_, c_filter_proper _ _, ?_⟩; refine K11 _ ?_; simp (disch := omega) only [go_sem]; refine K10 _ ?_; clear K11 K10; refine pwp_ret ?_; refine ⟨Or.inr rfl, ?_⟩; simp (disch := omega) only [go_sem]
      all_goals first | (rw [sqF_n hb0]; exact ⟨⟨rfl, rfl⟩, rfl⟩) | (rw [sqF_y hb0 hb1]; exact ⟨⟨rfl, rfl⟩, rfl⟩)
    · replace hb1 := not_f hb1; refine pwp_skip ?_; refine n_then ?_; refine pwx_sr 0 [] (by rfl) fun _ K12 => ?_; refine rgnX_take 3 fun _ K13 => ?_; simp (disch := omega) only [go_sem]; refine ⟨_, c_filter_proper _ _, ?_⟩; refine K13 _ ?_; simp (disch := omega) only [go_sem]; refine K12 _ ?_; clear K13 K12; refine pwp_ret ?_; refine ⟨Or.inr rfl, ?_⟩; simp (disch := omega) only [go_sem]
      all_goals first | (rw [sqF_n hb0]; exact ⟨⟨rfl, rfl⟩, rfl⟩) | (rw [sqF_y hb0 hb1]; exact ⟨⟨rfl, rfl⟩, rfl⟩)

end Go.Proofs.YtdojhoegildiaaaGreat

set_option linter.unusedSimpArgs false
set_option linter.unusedVariables false
set_option maxRecDepth 20000
namespace Go.Proofs.YtdojhoegildiaaaGreat
open Go Go.PL Go.RL
set_option maxHeartbeats 4000000 in
theorem c_filter_Mul (i j : Iv) (hi : i.Bd) (hj : j.Bd) :
    Ret Tryz.prog 81 [.a [.int .i64 i.lo, .int .i64 i.hi], .a [.int .i64 j.lo, .int .i64 j.hi]] (.t [.a [.int .i64 (muF i j).lo, .int .i64 (muF i j).hi], .c (.bool (muF i j).ok)]) := by
  refine ret_of_body (md := {}) Tryz.func81 (by kernel_rfl) rfl ?_; simp only [Tryz.f81, go_sem, Nat.reduceAdd, Nat.reduceSub, List.reduceReplicate]; refine pwx_sr 3 [] (by rfl) fun _ K1 => ?_; simp (disch := omega) only [go_sem]; refine K1 _ ?_; clear K1; refine pwx_sr 0 [] (by rfl) fun _ K2 => ?_; simp (disch := omega) only [go_sem]; refine K2 _ ?_; clear K2; refine pwp_seq ?_; refine pwx_sr 1 [] (by rfl) fun _ K3 => ?_; simp (disch := omega) only [go_sem]; refine K3 _ ?_; clear K3; refine pwp_block ?_; refine pwp_loopF (false :: false :: true :: true :: true :: true :: true :: true :: false :: false :: false :: false :: false :: false :: false :: false :: false :: false :: false :: true :: true :: true :: false :: false :: false :: false :: false :: false :: false :: false :: false :: false :: false :: false :: false :: false :: false :: false :: false :: false :: false :: false :: false :: false :: false :: false :: false :: false :: false :: false :: false :: false :: false :: false :: false :: false :: []) 4 (fun M s => ∃ u : Nat, (u ≤ 2) ∧ (∀ k, k < 2 * u → (prs i j k).ok = true) ∧ 2 - u = M ∧ s = { slots := .j :: .j :: .e (.c (.ptr 0 0)) :: .e (.c (.ptr 1 0)) :: .e (.c (.ptr 2 0)) :: .e (.c (.bool false)) :: .e (.c (.int .i64 (mlo i j (2 * u)))) :: .e (.c (.int .i64 (mhi i j (2 * u)))) :: .j :: .j :: .j :: .j :: .j :: .j :: .j :: .j :: .j :: .j :: .j :: .e (.c (.sl 2 [.int .i64 i.lo, .int .i64 i.hi])) :: .e (.c (.int .i64 ((2 : Nat) : Int))) :: .e (.c (.int .i64 (u : Int))) :: .j :: .j :: .j :: .j :: .j :: .j :: .j :: .j :: .j :: .j :: .j :: .j :: .j :: .j :: .j :: .j :: .j :: .j :: .j :: .j :: .j :: .j :: .j :: .j :: .j :: .j :: .j :: .j :: .j :: .j :: .j :: .j :: .j :: .j :: [], st := [.live [.int .i64 i.lo, .int .i64 i.hi], .live [.int .i64 j.lo, .int .i64 j.hi], .live [.int .i64 0, .int .i64 0], .gone] }) (n := 2) rfl ?_ ?_ ?_
  · refine ⟨0, ?_, ?_, rfl, ?_⟩
    · omega
    · intro k h; omega
    · first | rfl | simp [St.cut, keep]
  · refine ⟨rfl, ?_, ?_⟩ <;> first | rfl | (simp [keep, PV.lt, PE.lt, PC.lt, Box.lt, ↓lC_lt]; done) | simp [keep, PV.lt, PE.lt, PC.lt, Box.lt, ↓lC_lt, ↓intC_lt, ↓ratC_lt, ↓u32s_lt]
  · rintro _ _ ⟨u, hu2, hk, rfl, rfl⟩
    obtain ⟨a1, a2⟩ := sel_bd hi u; refine pwx_sr 0 [] (by rfl) fun _ K4 => ?_; simp (disch := omega) only [go_sem]; refine K4 _ ?_; clear K4; refine pwp_seq ?_; refine pwp_cond (b := _) (by rfl) (fun hb0 => ?_) (fun hb0 => ?_)
    · have hu : u < 2 := by have := of_decide_eq_true hb0; omega
      refine pwp_skip ?_; refine n_then ?_; refine pwp_seq ?_; refine pwp_block ?_; refine pwx_sr 0 [] (by rfl) fun _ K5 => ?_; simp (disch := omega) only [go_sem, idx_iv]; refine K5 _ ?_; clear K5; refine pwx_sr 1 [] (by rfl) fun _ K6 => ?_; simp (disch := omega) only [go_sem]; refine K6 _ ?_; clear K6; refine pwp_block ?_; refine pwp_loopF (false :: false :: true :: true :: true :: true :: true :: true :: false :: true :: false :: false :: false :: false :: false :: false :: false :: false :: false :: true :: true :: true :: false :: false :: false :: false :: false :: false :: false :: true :: true :: true :: false :: false :: false :: false :: false :: false :: false :: false :: false :: false :: false :: false :: false :: false :: false :: false :: false :: false :: false :: false :: false :: false :: false :: false :: []) 5 (fun M s => ∃ v : Nat, (v ≤ 2) ∧ (∀ k, k < 2 * u + v → (prs i j k).ok = true) ∧ 2 - v = M ∧ s = { slots := .j :: .j :: .e (.c (.ptr 0 0)) :: .e (.c (.ptr 1 0)) :: .e (.c (.ptr 2 0)) :: .e (.c (.bool false)) :: .e (.c (.int .i64 (mlo i j (2 * u + v)))) :: .e (.c (.int .i64 (mhi i j (2 * u + v)))) :: .j :: .e (.c (.int .i64 (sel i u))) :: .j :: .j :: .j :: .j :: .j :: .j :: .j :: .j :: .j :: .e (.c (.sl 2 [.int .i64 i.lo, .int .i64 i.hi])) :: .e (.c (.int .i64 ((2 : Nat) : Int))) :: .e (.c (.int .i64 (u : Int))) :: .j :: .j :: .j :: .j :: .j :: .j :: .j :: .e (.c (.sl 2 [.int .i64 j.lo, .int .i64 j.hi])) :: .e (.c (.int .i64 ((2 : Nat) : Int))) :: .e (.c (.int .i64 (v : Int))) :: .j :: .j :: .j :: .j :: .j :: .j :: .j :: .j :: .j :: .j :: .j :: .j :: .j :: .j :: .j :: .j :: .j :: .j :: .j :: .j :: .j :: .j :: .j :: .j :: [], st := [.live [.int .i64 i.lo, .int .i64 i.hi], .live [.int .i64 j.lo, .int .i64 j.hi], .live [.int .i64 0, .int .i64 0], .gone, .gone] }) (n := 2) rfl ?_ ?_ ?_
      · refine ⟨0, ?_, ?_, rfl, ?_⟩
        · omega
        · exact hk
        · first | rfl | simp [St.cut, keep]
      · refine ⟨rfl, ?_, ?_⟩ <;> first | rfl | (simp [keep, PV.lt, PE.lt, PC.lt, Box.lt, ↓lC_lt]; done) | simp [keep, PV.lt, PE.lt, PC.lt, Box.lt, ↓lC_lt, ↓intC_lt, ↓ratC_lt, ↓u32s_lt]
      · rintro _ _ ⟨v, hv2, hk2, rfl, rfl⟩
        obtain ⟨b1, b2⟩ := sel_bd hj v; refine pwx_sr 0 [] (by rfl) fun _ K7 => ?_; simp (disch := omega) only [go_sem]; refine K7 _ ?_; clear K7; refine pwp_seq ?_; refine pwp_cond (b := _) (by rfl) (fun hb1 => ?_) (fun hb1 => ?_)
        · have hv : v < 2 := by have := of_decide_eq_true hb1; omega
          refine pwp_skip ?_; refine n_then ?_; refine pwp_seq ?_; refine pwp_block ?_; refine pwx_sr 0 [] (by rfl) fun _ K8 => ?_; simp (disch := omega) only [go_sem, idx_iv]; refine K8 _ ?_; clear K8; refine pwx_sr 0 [] (by rfl) fun _ K9 => ?_; refine rgnX_take 3 fun _ K10 => ?_; simp (disch := omega) only [go_sem]; refine ⟨_, c_filter_scaled _ _ (by omega) (by omega) (by omega) (by omega), ?_⟩; refine K10 _ ?_; simp (disch := omega) only [go_sem]; refine K9 _ ?_; clear K10 K9; refine pwp_seq ?_; refine pwx_sr 0 [] (by rfl) fun _ K11 => ?_; simp (disch := omega) only [go_sem]; refine K11 _ ?_; clear K11; refine pwp_cond (b := _) (by rfl) (fun hb2 => ?_) (fun hb2 => ?_)
          · replace hb2 := not_t hb2; refine pwx_sr 0 [] (by rfl) fun _ K12 => ?_; simp (disch := omega) only [go_sem]; refine K12 _ ?_; clear K12; refine pwp_ret ?_; refine r_then ?_; refine r_block ?_; refine r_then ?_; refine r_then ?_; refine r_block ?_; refine r_block ?_; refine r_then ?_; refine r_then ?_; refine r_block ?_; refine r_then ?_; refine ⟨Or.inr rfl, ?_⟩; simp (disch := omega) only [go_sem]
            rw [muF_n hu hv hb2]; exact ⟨⟨rfl, rfl⟩, rfl⟩
          · replace hb2 := not_f hb2; refine pwp_skip ?_; refine n_then ?_; refine pwx_region 0 [] (by rfl) fun _ K13 => ?_; simp (disch := omega) only [go_sem]; refine K13 _ ?_; clear K13; refine n_block ?_; refine n_then ?_; refine pwx_region 0 [] (by rfl) fun _ K14 => ?_; simp (disch := omega) only [go_sem]; refine K14 _ ?_; clear K14; refine n_then ?_; rw [← mlo_uv hu hv, ← mhi_uv hu hv]; refine ⟨_, ?hdec, ⟨v + 1, ?hf0, ?hf1, rfl, ?heq⟩, ?hok⟩
            case heq => first | rfl | simp [St.cut, keep]
            case hf0 => omega
            case hf1 => exact prs_step hu hv hk2 hb2
            case hdec => omega
            case hok => refine ⟨rfl, ?_, ?_⟩ <;> first | rfl | (simp [keep, PV.lt, PE.lt, PC.lt, Box.lt, ↓lC_lt]; done) | simp [keep, PV.lt, PE.lt, PC.lt, Box.lt, ↓lC_lt, ↓intC_lt, ↓ratC_lt, ↓u32s_lt]
        · obtain rfl : v = 2 := by have := of_decide_eq_false hb1; omega
          refine pwp_exit ?_; refine e_then ?_; refine e_then ?_; refine e_here ?_; refine n_block ?_; refine n_then ?_; refine pwx_region 0 [] (by rfl) fun _ K15 => ?_; simp (disch := omega) only [go_sem]; refine K15 _ ?_; clear K15; refine n_then ?_; refine ⟨_, ?hdec, ⟨u + 1, ?hf0, ?hf1, rfl, ?heq⟩, ?hok⟩
          case heq => first | rfl | simp [St.cut, keep]
          case hf0 => omega
          case hf1 => exact hk2
          case hdec => omega
          case hok => refine ⟨rfl, ?_, ?_⟩ <;> first | rfl | (simp [keep, PV.lt, PE.lt, PC.lt, Box.lt, ↓lC_lt]; done) | simp [keep, PV.lt, PE.lt, PC.lt, Box.lt, ↓lC_lt, ↓intC_lt, ↓ratC_lt, ↓u32s_lt]
    · obtain rfl : u = 2 := by have := of_decide_eq_false hb0; omega
      refine pwp_exit ?_; refine e_then ?_; refine e_then ?_; refine e_here ?_; refine n_then ?_; refine pwx_sr 0 [] (by rfl) fun _ K16 => ?_; simp (disch := omega) only [go_sem]; refine K16 _ ?_; clear K16; refine pwp_ret ?_; refine ⟨Or.inr rfl, ?_⟩; simp (disch := omega) only [go_sem]
      rw [muF_y hk]; exact ⟨⟨rfl, rfl⟩, rfl⟩

end Go.Proofs.YtdojhoegildiaaaGreat

namespace Go.PL
open Go.RL
def rooF (a b c : Rat) : Iv :=
  if (frF a).ok = false ∨ b = 0 then frF a else
  if (frF b).ok = false ∨ (frF c).ok = false ∨ c < 0 then Iv.no else
  if (sqF (frF c)).ok = false then Iv.no else
  if (muF (frF b) (sqF (frF c))).ok = false then Iv.no else
  adF (frF a) (muF (frF b) (sqF (frF c)))
variable {a b c : Rat}
theorem rooF_1 (h : (frF a).ok = false ∨ b = 0) : rooF a b c = frF a := if_pos h
theorem rooF_2 (h : ¬ ((frF a).ok = false ∨ b = 0)) (h' : (frF b).ok = false ∨ (frF c).ok = false ∨ c < 0) : rooF a b c = Iv.no := by
  unfold rooF; rw [if_neg h, if_pos h']
theorem rooF_3 (h : ¬ ((frF a).ok = false ∨ b = 0)) (h' : ¬ ((frF b).ok = false ∨ (frF c).ok = false ∨ c < 0)) (h2 : (sqF (frF c)).ok = false) : rooF a b c = Iv.no := by
  unfold rooF; rw [if_neg h, if_neg h', if_pos h2]
theorem rooF_4 (h : ¬ ((frF a).ok = false ∨ b = 0)) (h' : ¬ ((frF b).ok = false ∨ (frF c).ok = false ∨ c < 0)) (h2 : (sqF (frF c)).ok = true) (h3 : (muF (frF b) (sqF (frF c))).ok = false) : rooF a b c = Iv.no := by
  unfold rooF; rw [if_neg h, if_neg h', if_neg (by rw [h2]; simp), if_pos h3]
theorem rooF_5 (h : ¬ ((frF a).ok = false ∨ b = 0)) (h' : ¬ ((frF b).ok = false ∨ (frF c).ok = false ∨ c < 0)) (h2 : (sqF (frF c)).ok = true) (h3 : (muF (frF b) (sqF (frF c))).ok = true) : rooF a b c = adF (frF a) (muF (frF b) (sqF (frF c))) := by
  unfold rooF; rw [if_neg h, if_neg h', if_neg (by rw [h2]; simp), if_neg (by rw [h3]; simp)]
theorem inI_eqv {lo hi : Int} {x y : Re} (h : eqv x y) (h' : inI lo hi x) : inI lo hi y :=
  ⟨(sgn_eqv (eqv_sub (eqv_mul (eqv_refl _) h) (eqv_refl _))) ▸ h'.1, (sgn_eqv (eqv_sub (eqv_refl _) (eqv_mul (eqv_refl _) h))) ▸ h'.2⟩
theorem v2_b0 (a c : Rat) : v2 a 0 c = Re.of a := by
  apply Re.ext; intro n
  show a + 0 * (rt c).s n = a
  grind
theorem bfalse {b : Bool} (h : ¬ b = false) : b = true := by cases b <;> simp_all
theorem rooF_ok (h : (rooF a b c).ok = true) : inI (rooF a b c).lo (rooF a b c).hi (v2 a b c) := by
  by_cases h1 : (frF a).ok = false ∨ b = 0
  · rw [rooF_1 h1] at h ⊢
    rcases h1 with h1 | rfl
    · rw [h] at h1; cases h1
    · rw [v2_b0]; exact frF_ok h
  · by_cases h2 : (frF b).ok = false ∨ (frF c).ok = false ∨ c < 0
    · rw [rooF_2 h1 h2] at h; cases h
    · rcases h3 : (sqF (frF c)).ok with _ | _
      · rw [rooF_3 h1 h2 h3] at h; cases h
      · rcases h4 : (muF (frF b) (sqF (frF c))).ok with _ | _
        · rw [rooF_4 h1 h2 h3 h4] at h; cases h
        · rw [rooF_5 h1 h2 h3 h4] at h ⊢
          simp only [not_or] at h1 h2
          have a1 := bfalse h1.1; have b1 := bfalse h2.1; have c1 := bfalse h2.2.1
          have c0 : 0 ≤ c := Rat.not_lt.1 h2.2.2
          exact adF_ok h (frF_ok a1) (muF_ok h4 (frF_ok b1) (sqF_ok c0 h3 (frF_ok c1)))
end Go.PL
