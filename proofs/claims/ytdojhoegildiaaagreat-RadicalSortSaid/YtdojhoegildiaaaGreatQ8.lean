/- Sorting positions by insertion, and slices of integers in the walks. Conditions: each lemma's own.
   Sorting positions by insertion: the start and the end. Conditions: each lemma's own.
   The growing list of positions in the walks. Conditions: each lemma's own.
   Lists of roots in any form. Conditions: each lemma's own.
   The walks of sorting by insertion. Conditions: none.
   The walk of the reference's sort. Conditions: none.
   The statement on sorting roots. Conditions: none. -/
import Derived.Test.YtdojhoegildiaaaGreatQ7
set_option linter.unusedVariables false
set_option linter.unusedSimpArgs false
set_option linter.unusedSimpArgs false
set_option linter.unusedVariables false
namespace Go.PL
open Go.RL
def ints (l : List Nat) : List PC := l.map fun (x : Nat) => PC.int .i64 (x : Int)
@[simp] theorem ints_length (l : List Nat) : (ints l).length = l.length := by simp [ints]
@[simp] theorem ints_im (l : List Nat) : (ints l).all PC.im = true := by simp [ints, PC.im]
@[simp] theorem ints_lt (n : Nat) (l : List Nat) : (ints l).all (PC.lt n) = true := by simp [ints, PC.lt]
theorem ints_get {l : List Nat} {j : Nat} (h : j < l.length) : (ints l)[j]? = some (.int .i64 (l.getD j 0 : Nat)) := by
  simp [ints, List.getD_eq_getElem?_getD, List.getElem?_eq_getElem h]
theorem ints_take (l : List Nat) (n : Nat) : (ints l).take n = ints (l.take n) := by simp [ints, List.map_take]
theorem ints_drop (l : List Nat) (n : Nat) : (ints l).drop n = ints (l.drop n) := by simp [ints, List.map_drop]
theorem ints_append (l m : List Nat) : ints l ++ ints m = ints (l ++ m) := by simp [ints]
theorem ints_nil : ints [] = [] := rfl
theorem ints_one (x : Nat) : [PC.int .i64 (x : Int)] = ints [x] := rfl
theorem ints_splice (l m : List Nat) (j : Nat) : splice (ints l) j (ints m) = ints (l.take j ++ m ++ l.drop (j + m.length)) := by
  simp only [splice, ints_take, ints_drop, ints_append, ints_length]
theorem ints_set {l : List Nat} {j : Nat} (h : j < l.length) (x : Nat) : splice (ints l) j [.int .i64 (x : Int)] = ints (l.set j x) := by
  rw [ints_one, ints_splice]
  congr 1
  rw [List.set_eq_take_append_cons_drop, if_pos h]
  simp
theorem ints_set2 {l : List Nat} {j k y : Nat} (h : j < l.length) (x : Nat) : splice (ints (l.set k y)) j [.int .i64 (x : Int)] = ints ((l.set k y).set j x) := ints_set (by simpa using h) x
theorem repC_i64 (n : Nat) : repC n [.int .i64 0] = ints (List.replicate n 0) := by
  simp only [repC, ints, List.map_replicate]
  induction n with
  | zero => rfl
  | succ n ih => rw [List.replicate_succ, List.flatten_cons, ih, List.replicate_succ]; rfl
theorem ints_ren (f : Nat → Nat) (l : List Nat) : (ints l).map (PC.ren f) = ints l := by
  simp only [ints, List.map_map]
  exact List.map_congr_left fun _ _ => rfl
structure R3 where
  a : Rat
  b : Rat
  c : Rat
def R3.cell (r : R3) : List PC := ratC r.a ++ (ratC r.b ++ ratC r.c)
def g3 (Q : List R3) (i : Nat) : R3 := Q.getD i ⟨0, 0, 0⟩
def c3 (Q : List R3) (i k : Nat) : Int := cmpR (g3 Q i).a (g3 Q i).b (g3 Q i).c (g3 Q k).a (g3 Q k).b (g3 Q k).c
def flat3 (Q : List R3) : List PC := (Q.map R3.cell).flatten
theorem get3 {Q : List R3} {i : Nat} (h : i < Q.length) : Q[i]? = some (g3 Q i) := by
  simp [g3, List.getD_eq_getElem?_getD, List.getElem?_eq_getElem h]
theorem idx3 {Q : List R3} {i n : Nat} (h : i < Q.length) (hn : n = Q.length) {sz bs ag zz e k} :
    indexA ⟨sz, bs, ag, zz, .slice e⟩ 12 (some (.c (.sl n (flat3 Q)))) (some (.c (.int k (i : Int)))) = some (.iptr (ratC (g3 Q i).a ++ (ratC (g3 Q i).b ++ ratC (g3 Q i).c))) := by
  refine idx_flat (E := Q.map R3.cell) (fun x hx => ?_) (x := (g3 Q i).cell) (by rw [List.getElem?_map, get3 h]; rfl) (by simp [hn])
  obtain ⟨r, _, rfl⟩ := List.mem_map.1 hx
  simp [R3.cell]
theorem flat3_im (Q : List R3) : (flat3 Q).all PC.im = true := by
  induction Q with
  | nil => rfl
  | cons a L ih =>
    simp only [flat3, List.map_cons, List.flatten_cons, List.all_append] at ih ⊢
    rw [ih]; simp [R3.cell]
theorem flat3_nm (Q : List R3) : (flat3 Q).map PC.norm = flat3 Q := by
  induction Q with
  | nil => rfl
  | cons a L ih =>
    simp only [flat3, List.map_cons, List.flatten_cons, List.map_append] at ih ⊢
    rw [ih]; simp [R3.cell]
def insK (Q : List R3) (x : Nat) (out : List Nat) : Nat → Nat
  | 0 => 0
  | k + 1 => if 0 < c3 Q (out.getD k 0) x then insK Q x out k else k + 1
theorem insK_le (Q : List R3) (x : Nat) (out : List Nat) : ∀ k, insK Q x out k ≤ k
  | 0 => Nat.le_refl _
  | k + 1 => by
    unfold insK
    split
    · exact Nat.le_succ_of_le (insK_le Q x out k)
    · exact Nat.le_refl _
def srt (Q : List R3) : Nat → List Nat
  | 0 => []
  | i + 1 => (srt Q i).take (insK Q i (srt Q i) i) ++ i :: (srt Q i).drop (insK Q i (srt Q i) i)
theorem srt_len (Q : List R3) : ∀ i, (srt Q i).length = i
  | 0 => rfl
  | i + 1 => by
    have h := srt_len Q i
    have := insK_le Q i (srt Q i) i
    simp only [srt, List.length_append, List.length_cons, List.length_take, List.length_drop, h]
    omega
theorem srt_lt (Q : List R3) : ∀ i, ∀ x ∈ srt Q i, x < i
  | 0, x, h => by simp [srt] at h
  | i + 1, x, h => by
    simp only [srt, List.mem_append, List.mem_cons] at h
    rcases h with h | rfl | h
    · exact Nat.lt_succ_of_lt (srt_lt Q i x (List.mem_of_mem_take h))
    · exact Nat.lt_succ_self _
    · exact Nat.lt_succ_of_lt (srt_lt Q i x (List.mem_of_mem_drop h))
theorem srt_getD (Q : List R3) {i j : Nat} (h : j < i) : (srt Q i).getD j 0 < i := by
  have hl := srt_len Q i
  rw [List.getD_eq_getElem?_getD, List.getElem?_eq_getElem (by omega)]
  exact srt_lt Q i _ (List.getElem_mem _)
def dt (Q : List R3) (n i j : Nat) : List Nat := (srt Q i).take j ++ (i :: ((srt Q i).drop j ++ List.range' (i + 1) (n - (i + 1))))
theorem dt_len {Q : List R3} {n i j : Nat} (hi : i < n) (hj : j ≤ i) : (dt Q n i j).length = n := by
  have h := srt_len Q i
  simp only [dt, List.length_append, List.length_cons, List.length_take, List.length_drop, List.length_range', h]; omega
theorem dt_start {Q : List R3} {n i : Nat} (hi : i < n) : srt Q i ++ List.range' i (n - i) = dt Q n i i := by
  have h := srt_len Q i
  unfold dt
  rw [List.take_of_length_le (by omega), List.drop_of_length_le (by omega), List.nil_append]
  congr 1
  rw [show n - i = (n - (i + 1)) + 1 by omega, List.range'_succ]
theorem dt_end {Q : List R3} {n i : Nat} (hi : i < n) : dt Q n i (insK Q i (srt Q i) i) = srt Q (i + 1) ++ List.range' (i + 1) (n - (i + 1)) := by
  unfold dt
  simp only [srt, List.append_assoc, List.cons_append]
theorem dt_end' {Q : List R3} {n i k : Nat} (hi : i < n) (h : insK Q i (srt Q i) i = k) : dt Q n i k = srt Q (i + 1) ++ List.range' (i + 1) (n - (i + 1)) := by
  subst h; exact dt_end hi
theorem dt_at {Q : List R3} {n i j : Nat} (hj : j ≤ i) : (dt Q n i j).getD j 0 = i := by
  have h := srt_len Q i
  unfold dt
  rw [List.getD_eq_getElem?_getD, List.getElem?_append_right (by simp; omega)]
  simp [h, Nat.min_eq_left hj]
theorem dt_bef {Q : List R3} {n i j : Nat} (hj : j < i) : (dt Q n i (j + 1)).getD j 0 = (srt Q i).getD j 0 := by
  have h := srt_len Q i
  unfold dt
  rw [List.getD_eq_getElem?_getD, List.getElem?_append_left (by simp; omega), List.getD_eq_getElem?_getD]
  simp [List.getElem?_take]
theorem dt_swap {Q : List R3} {n i j : Nat} (hi : i < n) (hj : j < i) : ((dt Q n i (j + 1)).set (j + 1) ((srt Q i).getD j 0)).set j i = dt Q n i j := by
  have h := srt_len Q i
  have hd : (srt Q i).drop j = (srt Q i).getD j 0 :: (srt Q i).drop (j + 1) := by
    rw [List.drop_eq_getElem_cons (by omega)]
    simp [List.getD_eq_getElem?_getD, List.getElem?_eq_getElem (show j < (srt Q i).length by omega)]
  have ht : (srt Q i).take (j + 1) = (srt Q i).take j ++ [(srt Q i).getD j 0] := by
    rw [List.take_add_one, List.getElem?_eq_getElem (by omega)]
    simp [List.getD_eq_getElem?_getD, List.getElem?_eq_getElem (show j < (srt Q i).length by omega)]
  unfold dt
  rw [hd, ht, List.set_append_right _ _ (by simp; omega)]
  simp only [List.length_append, List.length_take, List.length_cons, List.length_nil, h, Nat.min_eq_left (Nat.le_of_lt hj), Nat.zero_add, Nat.sub_self, List.set_cons_zero]
  rw [List.append_assoc, List.set_append_right _ _ (by simp; omega)]
  simp [h, Nat.min_eq_left (Nat.le_of_lt hj)]
theorem insK_step {Q : List R3} {x : Nat} {out : List Nat} {k : Nat} (h : 0 < c3 Q (out.getD k 0) x) : insK Q x out (k + 1) = insK Q x out k := if_pos h
theorem insK_stop {Q : List R3} {x : Nat} {out : List Nat} {k : Nat} (h : ¬ 0 < c3 Q (out.getD k 0) x) : insK Q x out (k + 1) = k + 1 := if_neg h
theorem c3_swap {Q : List R3} (hQ : ∀ r ∈ Q, 0 ≤ r.c) {i k : Nat} (hi : i < Q.length) (hk : k < Q.length) : c3 Q i k = -c3 Q k i := by
  have h1 := hQ _ (List.mem_of_getElem? (get3 hi))
  have h2 := hQ _ (List.mem_of_getElem? (get3 hk))
  exact cmpR_swap h2 h1
end Go.PL

set_option linter.unusedSimpArgs false
set_option linter.unusedVariables false
namespace Go.PL
open Go.RL
theorem srt_one (Q : List R3) : srt Q 1 = [0] := rfl
theorem rng1 (Q : List R3) : (Q.length = 0 ∧ List.range Q.length = []) ∨ (1 ≤ Q.length ∧ List.range Q.length = srt Q 1 ++ List.range' 1 (Q.length - 1)) := by
  rcases Nat.eq_zero_or_pos Q.length with h | h
  · exact .inl ⟨h, by rw [h]; rfl⟩
  · refine .inr ⟨h, ?_⟩
    rw [srt_one, List.range_eq_range', show Q.length = (Q.length - 1) + 1 by omega, List.range'_succ]
    simp
theorem fin1 {Q : List R3} {i : Nat} {D : List Nat} (h1 : 1 ≤ i) (hD : (Q.length = 0 ∧ D = []) ∨ (i ≤ Q.length ∧ D = srt Q i ++ List.range' i (Q.length - i))) (hi : ¬ i < Q.length) : D = srt Q Q.length := by
  rcases hD with ⟨h, rfl⟩ | ⟨h, rfl⟩
  · rw [h]; rfl
  · obtain rfl : i = Q.length := by omega
    simp
theorem fill_step {n k : Nat} (h : k < n) : (List.range k ++ List.replicate (n - k) 0).set k k = List.range (k + 1) ++ List.replicate (n - (k + 1)) 0 := by
  rw [List.set_append_right _ _ (by simp)]
  obtain ⟨r, hr⟩ : ∃ r, n - k = r + 1 := ⟨n - k - 1, by omega⟩
  rw [hr, List.replicate_succ, show n - (k + 1) = r by omega]
  simp [List.range_succ]
end Go.PL

set_option linter.unusedSimpArgs false
set_option linter.unusedVariables false
namespace Go.PL
open Go.RL
def GrowS (l : List Nat) (n : Nat) (v : PC) (σ : List Box) : Prop :=
  (v = .nils ∧ n = 0 ∧ σ = []) ∨ ∃ J : List Nat, v = .msl 0 0 n (n + J.length) 1 ∧ σ = [.live (ints (l ++ J))]
theorem GrowS.start {l : List Nat} : GrowS l 0 .nils [] := .inl ⟨rfl, rfl, rfl⟩
theorem GrowS.at {l : List Nat} {n cap : Nat} {cs : List PC} (J : List Nat) (h : cs = ints (l ++ J)) (hc : cap = n + J.length) : GrowS l n (.msl 0 0 n cap 1) [.live cs] := .inr ⟨J, by rw [hc], by rw [h]⟩
theorem GrowS.cases {l : List Nat} {n k : Nat} {v : PC} {σ : List Box} (h : GrowS l n v σ) (hk : k ≤ n) : (v = .nils ∧ n = 0 ∧ k = 0 ∧ σ = []) ∨
    (∃ J : List Nat, v = .msl 0 0 n (n + J.length) 1 ∧ σ = [.live (ints (l ++ J))] ∧ ((k = 0 ∧ ((n = 0 ∧ (J = [] ∨ 0 < J.length)) ∨ (0 < n ∧ (J = [] ∨ 0 < J.length)))) ∨ ∃ m, k = m + 1 ∧ ((n = m + 1 ∧ (J = [] ∨ 0 < J.length)) ∨ (m + 1 < n ∧ (J = [] ∨ 0 < J.length))))) := by
  rcases h with ⟨h1, h2, h3⟩ | ⟨J, h1, h2⟩
  · exact .inl ⟨h1, h2, by omega, h3⟩
  · refine .inr ⟨J, h1, h2, ?_⟩
    have hJ : J = [] ∨ 0 < J.length := by cases J <;> simp
    rcases k with _ | m
    · rcases Nat.eq_zero_or_pos n with q | q
      · exact .inl ⟨rfl, .inl ⟨q, hJ⟩⟩
      · exact .inl ⟨rfl, .inr ⟨q, hJ⟩⟩
    · rcases Nat.lt_or_ge (m + 1) n with q | q
      · exact .inr ⟨m, rfl, .inr ⟨q, hJ⟩⟩
      · exact .inr ⟨m, rfl, .inl ⟨by omega, hJ⟩⟩
theorem cutN_hi {s j : Nat} (h : j = 0) (k : IntKind) : cutA s none (some (some (.c (.int k (j : Int))))) none (some (.c .nils)) = some .nils := by
  subst h; rfl
theorem cutN_lo {s j : Nat} (h : j = 0) (k : IntKind) : cutA s (some (some (.c (.int k (j : Int))))) none none (some (.c .nils)) = some .nils := by
  subst h; rfl
theorem cutM_hi {s id off len cap sz j : Nat} (h : j ≤ cap) (k : IntKind) : cutA s none (some (some (.c (.int k (j : Int))))) none (some (.c (.msl id off len cap sz))) = some (.msl id off j cap sz) := by
  have hc : (0 : Int) ≤ (j : Int) ∧ (j : Int) ≤ (cap : Int) := ⟨by omega, by omega⟩
  simp only [cutA, cutB, if_pos hc, Option.bind_some, Int.toNat_natCast, Nat.sub_zero, Option.getD_none, Nat.zero_mul, Nat.add_zero, ite_self]
theorem cutM_lo {s id off len cap sz j : Nat} (h : j < len) (hc : j < cap) (k : IntKind) : cutA s (some (some (.c (.int k (j : Int))))) none none (some (.c (.msl id off len cap sz))) = some (.msl id (off + j * s) (len - j) (cap - j) sz) := by
  have hc' : (0 : Int) ≤ (j : Int) ∧ (j : Int) ≤ (len : Int) := ⟨by omega, by omega⟩
  simp only [cutA, cutB, if_pos hc', Option.bind_some, Int.toNat_natCast, Option.getD_none]
  rw [if_neg (by omega)]
theorem cutM_le {s id off len cap sz j : Nat} (h : j = len) (hc : j < cap) (k : IntKind) : cutA s (some (some (.c (.int k (j : Int))))) none none (some (.c (.msl id off len cap sz))) = some (.msl id (off + j * s) 0 (cap - j) sz) := by
  have hc' : (0 : Int) ≤ (j : Int) ∧ (j : Int) ≤ (len : Int) := ⟨by omega, by omega⟩
  simp only [cutA, cutB, if_pos hc', Option.bind_some, Int.toNat_natCast, Option.getD_none]
  rw [if_neg (by omega), h, Nat.sub_self]
theorem cutM_end {s id off len cap sz j : Nat} (h : j = len) (hc : cap = j) (k : IntKind) : cutA s (some (some (.c (.int k (j : Int))))) none none (some (.c (.msl id off len cap sz))) = some (.msl id off 0 0 sz) := by
  have hc' : (0 : Int) ≤ (j : Int) ∧ (j : Int) ≤ (len : Int) := ⟨by omega, by omega⟩
  simp only [cutA, cutB, if_pos hc', Option.bind_some, Int.toNat_natCast, Option.getD_none]
  rw [if_pos hc, hc, h, Nat.sub_self]
theorem getD_app {l J : List Nat} {m : Nat} (h : m < l.length) : (l ++ J).getD m 0 = dg l m := by
  rw [dg, List.getD_eq_getElem?_getD, List.getD_eq_getElem?_getD, List.getElem?_append_left h]
theorem ints_get_app {l J : List Nat} {m : Nat} (h : m < l.length) : (ints (l ++ J))[m]? = some (.int .i64 (dg l m : Nat)) := by
  rw [ints_get (by rw [List.length_append]; omega), getD_app h]
theorem spl1 (a b : Nat) : splice (ints [a]) 0 (ints [b]) = ints [b] := rfl
theorem spl_nil (l : List PC) (k : Nat) : splice l k [] = l := by simp [splice]
theorem srt_next {Q : List R3} {i k : Nat} (h : insK Q i (srt Q i) i = k) : srt Q (i + 1) = (srt Q i).take k ++ i :: (srt Q i).drop k := by
  subst h; rfl
theorem GrowS.fin {Q : List R3} {i k n cap : Nat} {L : List Nat} (hins : insK Q i (srt Q i) i = k) (hn : n = i + 1) (J : List Nat) (hL : L = (srt Q i).take k ++ i :: (srt Q i).drop k ++ J) (hc : i + 1 + J.length = cap) :
    GrowS (srt Q (i + 1)) (i + 1) (.msl 0 0 n cap 1) [.live (ints L)] := by
  subst hn
  rw [srt_next hins]
  exact GrowS.at J (by rw [hL]) hc.symm
section
variable {S J : List Nat} {i k c q : Nat} {R : List Nat}
theorem finA {x : Nat} (hS : S.length = i) : S.take i ++ x :: R = S.take i ++ x :: S.drop i ++ R := by
  rw [List.drop_of_length_le (by omega)]; simp
theorem finB {x : Nat} (hS : S.length = i) : (S ++ J).take i ++ x :: (S ++ J).drop (i + 1) = S.take i ++ x :: S.drop i ++ J.drop 1 := by
  rw [List.take_append_of_le_length (by omega), List.drop_of_length_le (i := i) (by omega), List.drop_append, List.drop_of_length_le (i := i + 1) (by omega), show i + 1 - S.length = 1 by omega]; simp
theorem finC (hS : S.length = i) (hk : k ≤ i) : S.take k ++ ((i :: ((S.drop k).take (i - k) ++ List.replicate c 0)).take (1 + (i - k)) ++ R) = S.take k ++ i :: S.drop k ++ R := by
  rw [List.take_of_length_le (l := S.drop k) (by simp; omega), Nat.add_comm 1, List.take_succ_cons, List.take_left' (by simp; omega)]; simp
theorem finD (hS : S.length = i) (hk : k ≤ i) (hq : q = i + 1) : (S ++ J).take k ++ ((i :: (((S ++ J).drop k).take (i - k) ++ List.replicate c 0)).take (1 + (i - k)) ++ (S ++ J).drop q) = S.take k ++ i :: S.drop k ++ J.drop 1 := by
  subst hq
  rw [List.take_append_of_le_length (by omega), List.drop_append_of_le_length (l₁ := S) (i := k) (by omega), List.take_left' (l₁ := S.drop k) (by simp; omega), Nat.add_comm 1, List.take_succ_cons, List.take_left' (by simp; omega),
    List.drop_append, List.drop_of_length_le (i := i + 1) (by omega), show i + 1 - S.length = 1 by omega]; simp
end
end Go.PL

set_option linter.unusedSimpArgs false
set_option linter.unusedVariables false
namespace Go.PL
open Go.RL
structure Raw6 where
  n0 : Bool
  n1 : Bool
  n2 : Bool
  n3 : Bool
  n4 : Bool
  n5 : Bool
  l0 : List Nat
  l1 : List Nat
  l2 : List Nat
  l3 : List Nat
  l4 : List Nat
  l5 : List Nat
def Raw6.c (r : Raw6) : List PC := [.bool r.n0, lC r.l0, .bool r.n1, lC r.l1, .bool r.n2, lC r.l2, .bool r.n3, lC r.l3, .bool r.n4, lC r.l4, .bool r.n5, lC r.l5]
theorem Raw6.len (r : Raw6) : r.c.length = 12 := rfl
def flat6 (E : List Raw6) : List PC := (E.map Raw6.c).flatten
theorem flat6_im (E : List Raw6) : (flat6 E).all PC.im = true := by
  induction E with
  | nil => rfl
  | cons a L ih =>
    simp only [flat6, List.map_cons, List.flatten_cons, List.all_append] at ih ⊢
    rw [ih]; simp [Raw6.c, lC_eq, PC.im]
theorem idx6 {E : List Raw6} {i n : Nat} {x : Raw6} (h : E[i]? = some x) (hn : n = E.length) {sz bs ag zz e k} :
    indexA ⟨sz, bs, ag, zz, .slice e⟩ 12 (some (.c (.sl n (flat6 E)))) (some (.c (.int k (i : Int)))) = some (.iptr x.c) := by
  refine idx_flat (E := E.map Raw6.c) (fun y hy => ?_) (x := x.c) (by rw [List.getElem?_map, h]; rfl) (by simp [hn])
  obtain ⟨r, _, rfl⟩ := List.mem_map.1 hy
  rfl
theorem idxI {l : List Nat} {i n : Nat} (h : i < l.length) (hn : n = l.length) {sz bs ag zz e k} :
    indexA ⟨sz, bs, ag, zz, .slice e⟩ 1 (some (.c (.sl n (ints l)))) (some (.c (.int k (i : Int)))) = some (.iptr [.int .i64 (dg l i : Nat)]) := by
  show (if (0 : Int) ≤ (i : Int) ∧ (i : Int) < ((n : Nat) : Int) then some (PC.iptr (((ints l).drop ((i : Int).toNat * 1)).take 1)) else none) = _
  rw [if_pos (by omega), Int.toNat_natCast, Nat.mul_one, ints_drop, List.drop_eq_getElem_cons h, show dg l i = l[i] by simp [dg, List.getD_eq_getElem?_getD, List.getElem?_eq_getElem h]]
  rfl
theorem list_or {X Y : Type} {A : X → Prop} {B : X → Y → Prop} (h : ∀ x, A x ∨ ∃ y, B x y) : ∀ E : List X, (∃ Q : List Y, All2 B E Q) ∨ ∃ (k : Nat) (x : X), E[k]? = some x ∧ A x ∧ ∀ (j : Nat) (z : X), j < k → E[j]? = some z → ∃ y, B z y
  | [] => .inl ⟨[], .nil⟩
  | x :: E => by
    rcases h x with hx | ⟨y, hy⟩
    · exact .inr ⟨0, x, rfl, hx, fun j z hj => absurd hj (by omega)⟩
    · rcases list_or h E with ⟨Q, hQ⟩ | ⟨k, z, hk, ha, hb⟩
      · exact .inl ⟨y :: Q, .cons hy hQ⟩
      · refine .inr ⟨k + 1, z, hk, ha, fun j u hj hu => ?_⟩
        cases j with
        | zero => simp at hu; subst hu; exact ⟨y, hy⟩
        | succ j => exact hb j u (by omega) (by simpa using hu)
theorem flat_eq {B : Raw6 → R3 → Prop} (hB : ∀ x y, B x y → x.c = y.cell) : ∀ {E : List Raw6} {Q : List R3}, All2 B E Q → flat6 E = flat3 Q ∧ E.length = Q.length
  | _, _, .nil => ⟨rfl, rfl⟩
  | _, _, .cons h t => by
    obtain ⟨h1, h2⟩ := flat_eq hB t
    simp only [flat6, flat3, List.map_cons, List.flatten_cons] at h1 ⊢
    rw [hB _ _ h, h1]
    exact ⟨rfl, by simp [h2]⟩
end Go.PL

set_option linter.unusedSimpArgs false
set_option linter.unusedVariables false
set_option maxRecDepth 20000
namespace Go.Proofs.YtdojhoegildiaaaGreat
open Go Go.PL Go.RL
set_option maxHeartbeats 4000000 in
theorem c_Sort1 (Q : List R3) (hQ : ∀ r ∈ Q, SzR r.a 2 ∧ SzR r.b 2 ∧ SzR r.c 2 ∧ 0 ≤ r.c) (hl : Q.length ≤ 12) (i k : Nat) (hi : i < Q.length) (hk : k < Q.length) (ids : List Nat) (σ : List Box) (hn : ids.Nodup) (hid : ∀ i, i < 1 → ∃ id cs, ids[i]? = some id ∧ [[.sl Q.length (flat3 Q)]][i]? = some cs ∧ σ[id]? = some (.live cs)) (hil : ids.length = 1) :
    RetM Tryz.prog 76 ([.c (.int .i64 (i : Int)), .c (.int .i64 (k : Int)), .c (.ptr 0 0)].map (PE.ren (nth ids))) σ fun r' σ' => ∃ css', (fun r' css' => r' = .e (.c (.int .i64 (c3 Q i k))) ∧ css' = [[.sl Q.length (flat3 Q)]]) r' css' ∧ css'.length = 1 ∧ σ' = setAll σ ids css' := by
  refine retB_of_body (args := [.c (.int .i64 (i : Int)), .c (.int .i64 (k : Int)), .c (.ptr 0 0)]) (css := [[.sl Q.length (flat3 Q)]]) (md := { fz := false }) Tryz.func76 (by kernel_rfl) rfl rfl (by simp [PE.lt, PC.lt]) (by simp [-List.all_eq_true, PC.im, flat3_im, ints_im]) (fun r' css' => r' = .e (.c (.int .i64 (c3 Q i k))) ∧ css' = [[.sl Q.length (flat3 Q)]]) ?_ ids σ hn hid hil; simp only [Tryz.f76, go_sem, Nat.reduceAdd, Nat.reduceSub, List.reduceReplicate]; obtain ⟨ix1, ix2, ix3, cx⟩ := hQ _ (List.mem_of_getElem? (get3 (show i < Q.length by omega))); obtain ⟨iy1, iy2, iy3, cy⟩ := hQ _ (List.mem_of_getElem? (get3 (show k < Q.length by omega))); have h1 := @idx3 Q i Q.length hi rfl; have h2 := @idx3 Q k Q.length hk rfl; refine pwx_sr 0 [] (by rfl) fun _ K1 => ?_; simp (disch := omega) only [go_sem, flat3_im, flat3_nm, ints_im, ints_length]; refine K1 _ ?_; clear K1; refine pwx_sd Tryz.mixed 0 [] (by rfl) [] (by kernel_rfl) (by simp) fun _ K2 => ?_; refine rgnX_take 9 fun _ K3 => ?_; simp (disch := omega) only [go_sem, flat3_im, flat3_nm, ints_im, ints_length, h1, h2]; refine ⟨_, c_radical_Cmp _ _ _ _ _ _ (by omega) (by assumption) (by assumption), ?_⟩; refine K3 _ ?_; simp (disch := omega) only [go_sem, flat3_im, flat3_nm, ints_im, ints_length, h1, h2]; refine K2 _ ?_; clear K3 K2; refine pwp_ret ?_; refine ⟨Or.inr rfl, _, rfl, rfl, [[.sl Q.length (flat3 Q)]], rfl, by simp [-List.all_eq_true, PC.im, flat3_im, ints_im], ?_, _, rfl⟩; exact ⟨rfl, rfl⟩
set_option maxHeartbeats 4000000 in
theorem c_insertionSort (Q : List R3) (hQ : ∀ r ∈ Q, SzR r.a 2 ∧ SzR r.b 2 ∧ SzR r.c 2 ∧ 0 ≤ r.c) (hl : Q.length ≤ 12) (ids : List Nat) (σ : List Box) (hn : ids.Nodup) (hid : ∀ i, i < 2 → ∃ id cs, ids[i]? = some id ∧ [ints (List.range Q.length), [.sl Q.length (flat3 Q)]][i]? = some cs ∧ σ[id]? = some (.live cs)) (hil : ids.length = 2) :
    RetM Tryz.prog 135 ([.c (.msl 0 0 Q.length Q.length 1), .c (.int .i64 0), .c (.int .i64 (Q.length : Int)), .c (.clo 76 [(1, 0)])].map (PE.ren (nth ids))) σ fun r' σ' => ∃ css', (fun r' css' => r' = .t [] ∧ css' = [ints (srt Q Q.length), [.sl Q.length (flat3 Q)]]) r' css' ∧ css'.length = 2 ∧ σ' = setAll σ ids css' := by
  refine retB_of_body (args := [.c (.msl 0 0 Q.length Q.length 1), .c (.int .i64 0), .c (.int .i64 (Q.length : Int)), .c (.clo 76 [(1, 0)])]) (css := [ints (List.range Q.length), [.sl Q.length (flat3 Q)]]) (md := { fz := false, ap := true }) Tryz.func135 (by kernel_rfl) rfl rfl (by simp [PE.lt, PC.lt]) (by simp [-List.all_eq_true, PC.im, flat3_im, ints_im]) (fun r' css' => r' = .t [] ∧ css' = [ints (srt Q Q.length), [.sl Q.length (flat3 Q)]]) ?_ ids σ hn hid hil; simp only [Tryz.f135, go_sem, Nat.reduceAdd, Nat.reduceSub, List.reduceReplicate]; refine pwx_sr 0 [] (by rfl) fun _ K1 => ?_; simp (disch := omega) only [go_sem, flat3_im, flat3_nm, ints_im, ints_length]; refine K1 _ ?_; clear K1; refine pwp_block ?_; refine pwp_loopS (true :: true :: true :: true :: false :: false :: false :: false :: true :: false :: false :: false :: false :: false :: false :: false :: false :: false :: false :: false :: false :: false :: false :: false :: false :: false :: false :: false :: false :: false :: false :: false :: false :: false :: false :: false :: false :: false :: false :: false :: false :: false :: false :: false :: false :: false :: false :: false :: false :: false :: false :: false :: false :: []) (fun M s => ∃ i : Nat, ∃ D : List Nat, (1 ≤ i) ∧ ((Q.length = 0 ∧ D = []) ∨ (i ≤ Q.length ∧ D = srt Q i ++ List.range' i (Q.length - i))) ∧ Q.length - i = M ∧ s = { slots := .e (.c (.msl 0 0 Q.length Q.length 1)) :: .e (.c (.int .i64 0)) :: .e (.c (.int .i64 (Q.length : Int))) :: .e (.c (.clo 76 [(1, 0)])) :: .j :: .j :: .j :: .j :: .e (.c (.int .i64 (i : Int))) :: .j :: .j :: .j :: .j :: .j :: .j :: .j :: .j :: .j :: .j :: .j :: .j :: .j :: .j :: .j :: .j :: .j :: .j :: .j :: .j :: .j :: .j :: .j :: .j :: .j :: .j :: .j :: .j :: .j :: .j :: .j :: .j :: .j :: .j :: .j :: .j :: .j :: .j :: .j :: .j :: .j :: .j :: .j :: .j :: [], st := [.live (ints D), .live [.sl Q.length (flat3 Q)]] }) (n := Q.length - 1) ?_ rfl ?_
  · refine ⟨1, List.range Q.length, ?_, ?_, rfl, ?_⟩
    · omega
    · exact rng1 Q
    · first | rfl | simp [St.cut, keep]
  · rintro _ _ ⟨i, D, hi1, hD, rfl, rfl⟩
    refine pwp_seq ?_; refine pwx_sr 0 [] (by rfl) fun _ K2 => ?_; simp (disch := omega) only [go_sem, flat3_im, flat3_nm, ints_im, ints_length]; refine K2 _ ?_; clear K2; refine pwp_cond (b := _) (by rfl) (fun hb0 => ?_) (fun hb0 => ?_)
    · replace hb0 := of_decide_eq_true hb0
      have hlt : i < Q.length := by omega
      replace hD : D = srt Q i ++ List.range' i (Q.length - i) := by rcases hD with ⟨h0, _⟩ | ⟨_, h⟩ <;> first | omega | exact h
      refine pwp_skip ?_; refine n_then ?_; refine pwp_seq ?_; refine pwp_block ?_; refine pwx_sr 0 [] (by rfl) fun _ K3 => ?_; simp (disch := omega) only [go_sem, flat3_im, flat3_nm, ints_im, ints_length]; refine K3 _ ?_; clear K3; refine pwp_block ?_; refine pwp_loopS (true :: true :: true :: true :: false :: false :: false :: false :: true :: true :: false :: false :: false :: false :: false :: false :: false :: false :: false :: false :: false :: false :: false :: false :: false :: false :: false :: false :: false :: false :: false :: false :: false :: false :: false :: false :: false :: false :: false :: false :: false :: false :: false :: false :: false :: false :: false :: false :: false :: false :: false :: false :: false :: []) (fun M s => ∃ j : Nat, ∃ W : List Nat, (j ≤ i) ∧ (W = dt Q Q.length i j) ∧ (insK Q i (srt Q i) i = insK Q i (srt Q i) j) ∧ j = M ∧ s = { slots := .e (.c (.msl 0 0 Q.length Q.length 1)) :: .e (.c (.int .i64 0)) :: .e (.c (.int .i64 (Q.length : Int))) :: .e (.c (.clo 76 [(1, 0)])) :: .j :: .j :: .j :: .j :: .e (.c (.int .i64 (i : Int))) :: .e (.c (.int .i64 (j : Int))) :: .j :: .j :: .j :: .j :: .j :: .j :: .j :: .j :: .j :: .j :: .j :: .j :: .j :: .j :: .j :: .j :: .j :: .j :: .j :: .j :: .j :: .j :: .j :: .j :: .j :: .j :: .j :: .j :: .j :: .j :: .j :: .j :: .j :: .j :: .j :: .j :: .j :: .j :: .j :: .j :: .j :: .j :: .j :: [], st := [.live (ints W), .live [.sl Q.length (flat3 Q)]] }) (n := i) ?_ rfl ?_
      · refine ⟨i, D, ?_, ?_, ?_, rfl, ?_⟩
        · omega
        · rw [hD]; exact dt_start hlt
        · rfl
        · first | rfl | simp [St.cut, keep]
      · rintro _ _ ⟨j, W, hj, hW, hk, rfl, rfl⟩
        refine pwp_seq ?_
        rcases j with _ | m
        · have hj0 : insK Q i (srt Q i) i = 0 := hk; refine pwx_sd Tryz.mixed 0 [some 18, some 19, some 20, some 21, some 22, some 23, some 24, some 25, some 26, some 27, some 28, some 29, some 30, some 31, some 32, some 33, some 34] (by rfl) [] (by kernel_rfl) (by simp) fun _ K4 => ?_; refine rgnX_take 15 fun _ K5 => ?_; simp (disch := omega) only [go_sem, flat3_im, flat3_nm, ints_im, ints_length, ilt_F]
          first | (refine ⟨_, c_Sort1 Q hQ hl i ((srt Q i).getD m 0) hlt hxl [1] _ (by simp) (by simp) rfl, ⟨_, _, ⟨_, ⟨rfl, rfl⟩, rfl, rfl⟩⟩, ?_⟩; rintro _ _ ⟨_, ⟨rfl, rfl⟩, _, rfl⟩; simp only [setAll, List.set_cons_succ, List.set_cons_zero]) | skip
          refine K5 _ ?_; simp (disch := omega) only [go_sem, flat3_im, flat3_nm, ints_im, ints_length, ilt_F]; refine K4 _ ?_; clear K5 K4; refine pwp_cond (b := false) (by rfl) (fun h => nomatch h) (fun _ => ?_); refine pwp_exit ?_; refine e_then ?_; refine e_then ?_; refine e_here ?_; refine n_block ?_; refine n_then ?_; refine pwx_region 0 [] (by rfl) fun _ K6 => ?_; simp (disch := omega) only [go_sem, flat3_im, flat3_nm, ints_im, ints_length]; refine K6 _ ?_; clear K6; refine n_then ?_; refine ⟨_, ?hdec, ⟨i + 1, ?w3_1, ?hf0, ?hf1, rfl, ?heq⟩, ?hok⟩
          case heq => first | rfl | simp [St.cut, keep]
          case hf0 => omega
          case hf1 => exact .inr ⟨by omega, by rw [hW]; exact dt_end' hlt (by exact hj0)⟩
          case hdec => omega
          case hok => rfl
        · have hlen : W.length = Q.length := by rw [hW]; exact dt_len hlt hj
          have hx0 : W.getD (m + 1) 0 = i := by rw [hW]; exact dt_at hj
          have hx1 : W.getD m 0 = ((srt Q i).getD m 0) := by rw [hW]; exact dt_bef (by omega)
          have hxl : ((srt Q i).getD m 0) < Q.length := Nat.lt_trans (srt_getD Q (by omega)) hlt; refine pwx_sd Tryz.mixed 0 [some 18, some 19, some 20, some 21, some 22, some 23, some 24, some 25, some 26, some 27, some 28, some 29, some 30, some 31, some 32, some 33, some 34] (by rfl) [] (by kernel_rfl) (by simp) fun _ K7 => ?_; refine rgnX_take 15 fun _ K8 => ?_; simp (disch := omega) only [go_sem, flat3_im, flat3_nm, ints_im, ints_length, ilt_T, ints_get, hx0, hx1, hlen]
          first | (refine ⟨_, c_Sort1 Q hQ hl i ((srt Q i).getD m 0) hlt hxl [1] _ (by simp) (by simp) rfl, ⟨_, _, ⟨_, ⟨rfl, rfl⟩, rfl, rfl⟩⟩, ?_⟩; rintro _ _ ⟨_, ⟨rfl, rfl⟩, _, rfl⟩; simp only [setAll, List.set_cons_succ, List.set_cons_zero]) | skip
          refine K8 _ ?_; simp (disch := omega) only [go_sem, flat3_im, flat3_nm, ints_im, ints_length, ilt_T, ints_get, hx0, hx1, hlen]; refine K7 _ ?_; clear K8 K7; refine pwp_cond (b := _) (by rfl) (fun hb2 => ?_) (fun hb2 => ?_)
          · replace hb2 : c3 Q i ((srt Q i).getD m 0) < 0 := of_decide_eq_true hb2; refine pwp_skip ?_; refine n_then ?_; refine pwp_seq ?_; refine pwp_block ?_; refine pwx_draw Tryz.mixed 0 [] (by rfl) [] (by kernel_rfl) (by simp) fun _ K9 => ?_; simp (disch := omega) only [go_sem, flat3_im, flat3_nm, ints_im, ints_length, ints_get, ints_set2, ints_set, hx0, hx1, hlen]; refine K9 _ ?_; clear K9; refine n_block ?_; refine n_then ?_; refine pwx_region 0 [] (by rfl) fun _ K10 => ?_; simp (disch := omega) only [go_sem, flat3_im, flat3_nm, ints_im, ints_length]; refine K10 _ ?_; clear K10; refine n_then ?_; refine ⟨_, ?hdec, ⟨m, ?w4_1, ?hf0, ?hf1, ?hf2, rfl, ?heq⟩, ?hok⟩
            case heq => first | rfl | simp [St.cut, keep]
            case hf0 => omega
            case hf1 => rw [hW]; exact dt_swap hlt (by omega)
            case hf2 => rw [hk]; exact insK_step (by have := c3_swap (fun r hr => (hQ r hr).2.2.2) hlt hxl; omega)
            case hdec => omega
            case hok => rfl
          · replace hb2 : ¬ c3 Q i ((srt Q i).getD m 0) < 0 := of_decide_eq_false hb2; refine pwp_exit ?_; refine e_then ?_; refine e_then ?_; refine e_here ?_; refine n_block ?_; refine n_then ?_; refine pwx_region 0 [] (by rfl) fun _ K11 => ?_; simp (disch := omega) only [go_sem, flat3_im, flat3_nm, ints_im, ints_length]; refine K11 _ ?_; clear K11; refine n_then ?_; refine ⟨_, ?hdec, ⟨i + 1, ?w5_1, ?hf0, ?hf1, rfl, ?heq⟩, ?hok⟩
            case heq => first | rfl | simp [St.cut, keep]
            case hf0 => omega
            case hf1 => exact .inr ⟨by omega, by rw [hW]; exact dt_end' hlt (by rw [hk]; exact insK_stop (by have := c3_swap (fun r hr => (hQ r hr).2.2.2) hlt hxl; omega))⟩
            case hdec => omega
            case hok => rfl
    · replace hb0 := of_decide_eq_false hb0; refine pwp_exit ?_; refine e_then ?_; refine e_then ?_; refine e_here ?_; refine ⟨Or.inl rfl, [ints D, [.sl Q.length (flat3 Q)]], rfl, by simp [-List.all_eq_true, PC.im, flat3_im, ints_im], ?_, _, rfl⟩; rw [fin1 hi1 hD (by omega)]
set_option maxHeartbeats 4000000 in
theorem c_stableCmp (Q : List R3) (hQ : ∀ r ∈ Q, SzR r.a 2 ∧ SzR r.b 2 ∧ SzR r.c 2 ∧ 0 ≤ r.c) (hl : Q.length ≤ 12) (ids : List Nat) (σ : List Box) (hn : ids.Nodup) (hid : ∀ i, i < 2 → ∃ id cs, ids[i]? = some id ∧ [ints (List.range Q.length), [.sl Q.length (flat3 Q)]][i]? = some cs ∧ σ[id]? = some (.live cs)) (hil : ids.length = 2) :
    RetM Tryz.prog 111 ([.c (.msl 0 0 Q.length Q.length 1), .c (.int .i64 (Q.length : Int)), .c (.clo 76 [(1, 0)])].map (PE.ren (nth ids))) σ fun r' σ' => ∃ css', (fun r' css' => r' = .t [] ∧ css' = [ints (srt Q Q.length), [.sl Q.length (flat3 Q)]]) r' css' ∧ css'.length = 2 ∧ σ' = setAll σ ids css' := by
  refine retB_of_body (args := [.c (.msl 0 0 Q.length Q.length 1), .c (.int .i64 (Q.length : Int)), .c (.clo 76 [(1, 0)])]) (css := [ints (List.range Q.length), [.sl Q.length (flat3 Q)]]) (md := { fz := false, ap := true }) Tryz.func111 (by kernel_rfl) rfl rfl (by simp [PE.lt, PC.lt]) (by simp [-List.all_eq_true, PC.im, flat3_im, ints_im]) (fun r' css' => r' = .t [] ∧ css' = [ints (srt Q Q.length), [.sl Q.length (flat3 Q)]]) ?_ ids σ hn hid hil; simp only [Tryz.f111, go_sem, Nat.reduceAdd, Nat.reduceSub, List.reduceReplicate]; refine pwx_sr 0 [] (by rfl) fun _ K1 => ?_; simp (disch := omega) only [go_sem, flat3_im, flat3_nm, ints_im, ints_length]; refine K1 _ ?_; clear K1; refine pwx_sr 0 [] (by rfl) fun _ K2 => ?_; simp (disch := omega) only [go_sem, flat3_im, flat3_nm, ints_im, ints_length]; refine K2 _ ?_; clear K2; refine pwp_seq ?_; refine pwp_block ?_; refine pwp_loopS (true :: true :: true :: false :: false :: false :: true :: true :: true :: false :: false :: false :: false :: false :: false :: false :: false :: false :: false :: false :: false :: false :: false :: false :: false :: false :: false :: false :: false :: false :: false :: false :: false :: false :: false :: false :: false :: false :: false :: false :: false :: false :: false :: false :: false :: false :: false :: false :: false :: false :: false :: false :: false :: false :: false :: false :: false :: false :: false :: false :: false :: false :: false :: []) (fun M s => 0 = M ∧ s = { slots := .e (.c (.msl 0 0 Q.length Q.length 1)) :: .e (.c (.int .i64 (Q.length : Int))) :: .e (.c (.clo 76 [(1, 0)])) :: .j :: .j :: .j :: .e (.c (.int .i64 20)) :: .e (.c (.int .i64 0)) :: .e (.c (.int .i64 20)) :: .j :: .j :: .j :: .j :: .j :: .j :: .j :: .j :: .j :: .j :: .j :: .j :: .j :: .j :: .j :: .j :: .j :: .j :: .j :: .j :: .j :: .j :: .j :: .j :: .j :: .j :: .j :: .j :: .j :: .j :: .j :: .j :: .j :: .j :: .j :: .j :: .j :: .j :: .j :: .j :: .j :: .j :: .j :: .j :: .j :: .j :: .j :: .j :: .j :: .j :: .j :: .j :: .j :: .j :: [], st := [.live (ints (List.range Q.length)), .live [.sl Q.length (flat3 Q)]] }) (n := 0) ?_ rfl ?_
  · refine ⟨rfl, ?_⟩
    · first | rfl | simp [St.cut, keep]
  · rintro _ _ ⟨rfl, rfl⟩
    refine pwp_seq ?_; refine pwx_sr 0 [] (by rfl) fun _ K3 => ?_; simp (disch := omega) only [go_sem, flat3_im, flat3_nm, ints_im, ints_length]; refine K3 _ ?_; clear K3; refine pwp_cond (b := _) (by rfl) (fun hb0 => ?_) (fun hb0 => ?_)
    · exfalso; first | exact absurd hb0 (by decide) | (replace hb0 := of_decide_eq_true hb0; omega)
    · skip; refine pwp_exit ?_; refine e_then ?_; refine e_then ?_; refine e_here ?_; refine n_then ?_; refine pwx_sr 0 [] (by rfl) fun _ K4 => ?_; simp (disch := omega) only [go_sem, flat3_im, flat3_nm, ints_im, ints_length]; refine ⟨_, c_insertionSort Q hQ hl [0, 1] _ (by simp) (by intro i hi; match i, hi with | 0, _ => exact ⟨_, _, rfl, rfl, rfl⟩ | 1, _ => exact ⟨_, _, rfl, rfl, rfl⟩) rfl, ⟨_, _, ⟨_, ⟨rfl, rfl⟩, rfl, rfl⟩⟩, ?_⟩
      rintro _ _ ⟨_, ⟨rfl, rfl⟩, _, rfl⟩
      simp only [setAll, List.set_cons_succ, List.set_cons_zero]; refine K4 _ ?_; clear K4; refine pwp_block ?_; refine pwp_loopS (true :: true :: true :: false :: false :: false :: true :: false :: false :: false :: false :: false :: false :: false :: false :: false :: false :: false :: false :: false :: false :: false :: false :: false :: false :: false :: false :: false :: false :: false :: false :: false :: false :: false :: false :: false :: false :: false :: false :: false :: false :: false :: false :: false :: false :: false :: false :: false :: false :: false :: false :: false :: false :: false :: false :: false :: false :: false :: false :: false :: false :: false :: false :: []) (fun M s => 0 = M ∧ s = { slots := .e (.c (.msl 0 0 Q.length Q.length 1)) :: .e (.c (.int .i64 (Q.length : Int))) :: .e (.c (.clo 76 [(1, 0)])) :: .j :: .j :: .j :: .e (.c (.int .i64 20)) :: .j :: .j :: .j :: .j :: .j :: .j :: .j :: .j :: .j :: .j :: .j :: .j :: .j :: .j :: .j :: .j :: .j :: .j :: .j :: .j :: .j :: .j :: .j :: .j :: .j :: .j :: .j :: .j :: .j :: .j :: .j :: .j :: .j :: .j :: .j :: .j :: .j :: .j :: .j :: .j :: .j :: .j :: .j :: .j :: .j :: .j :: .j :: .j :: .j :: .j :: .j :: .j :: .j :: .j :: .j :: .j :: [], st := [.live (ints (srt Q Q.length)), .live [.sl Q.length (flat3 Q)]] }) (n := 0) ?_ rfl ?_
      · refine ⟨rfl, ?_⟩
        · first | rfl | simp [St.cut, keep]
      · rintro _ _ ⟨rfl, rfl⟩
        refine pwp_seq ?_; refine pwx_sr 0 [] (by rfl) fun _ K6 => ?_; simp (disch := omega) only [go_sem, flat3_im, flat3_nm, ints_im, ints_length]; refine K6 _ ?_; clear K6; refine pwp_cond (b := _) (by rfl) (fun hb1 => ?_) (fun hb1 => ?_)
        · exfalso; first | exact absurd hb1 (by decide) | (replace hb1 := of_decide_eq_true hb1; omega)
        · skip; refine pwp_exit ?_; refine e_then ?_; refine e_then ?_; refine e_here ?_; refine ⟨Or.inl rfl, [ints (srt Q Q.length), [.sl Q.length (flat3 Q)]], rfl, by simp [-List.all_eq_true, PC.im, flat3_im, ints_im], ?_, _, rfl⟩; rfl
set_option maxHeartbeats 4000000 in
theorem c_SortStable (Q : List R3) (hQ : ∀ r ∈ Q, SzR r.a 2 ∧ SzR r.b 2 ∧ SzR r.c 2 ∧ 0 ≤ r.c) (hl : Q.length ≤ 12) (ids : List Nat) (σ : List Box) (hn : ids.Nodup) (hid : ∀ i, i < 2 → ∃ id cs, ids[i]? = some id ∧ [ints (List.range Q.length), [.sl Q.length (flat3 Q)]][i]? = some cs ∧ σ[id]? = some (.live cs)) (hil : ids.length = 2) :
    RetM Tryz.prog 75 ([.c (.msl 0 0 Q.length Q.length 1), .c (.clo 76 [(1, 0)])].map (PE.ren (nth ids))) σ fun r' σ' => ∃ css', (fun r' css' => r' = .t [] ∧ css' = [ints (srt Q Q.length), [.sl Q.length (flat3 Q)]]) r' css' ∧ css'.length = 2 ∧ σ' = setAll σ ids css' := by
  refine retB_of_body (args := [.c (.msl 0 0 Q.length Q.length 1), .c (.clo 76 [(1, 0)])]) (css := [ints (List.range Q.length), [.sl Q.length (flat3 Q)]]) (md := { fz := false, ap := true }) Tryz.func75 (by kernel_rfl) rfl rfl (by simp [PE.lt, PC.lt]) (by simp [-List.all_eq_true, PC.im, flat3_im, ints_im]) (fun r' css' => r' = .t [] ∧ css' = [ints (srt Q Q.length), [.sl Q.length (flat3 Q)]]) ?_ ids σ hn hid hil; simp only [Tryz.f75, go_sem, Nat.reduceAdd, Nat.reduceSub, List.reduceReplicate]; refine pwx_region 0 [] (by rfl) fun _ K1 => ?_; simp (disch := omega) only [go_sem, flat3_im, flat3_nm, ints_im, ints_length]; refine ⟨_, c_stableCmp Q hQ hl [0, 1] _ (by simp) (by intro i hi; match i, hi with | 0, _ => exact ⟨_, _, rfl, rfl, rfl⟩ | 1, _ => exact ⟨_, _, rfl, rfl, rfl⟩) rfl, ⟨_, _, ⟨_, ⟨rfl, rfl⟩, rfl, rfl⟩⟩, ?_⟩
  rintro _ _ ⟨_, ⟨rfl, rfl⟩, _, rfl⟩
  simp only [setAll, List.set_cons_succ, List.set_cons_zero]; refine K1 _ ?_; clear K1; refine ⟨Or.inl rfl, [ints (srt Q Q.length), [.sl Q.length (flat3 Q)]], rfl, by simp [-List.all_eq_true, PC.im, flat3_im, ints_im], ?_, _, rfl⟩; rfl
set_option maxHeartbeats 4000000 in
theorem c_radical_Sort (Q : List R3) (hQ : ∀ r ∈ Q, SzR r.a 2 ∧ SzR r.b 2 ∧ SzR r.c 2 ∧ 0 ≤ r.c) (hl : Q.length ≤ 12) :
    Ret Tryz.prog 33 [.c (.sl Q.length (flat3 Q))] (.e (.c (.sl Q.length (ints (srt Q Q.length))))) := by
  refine ret_of_body (md := { ap := true }) Tryz.func33 (by kernel_rfl) rfl ?_; simp only [Tryz.f33, go_sem, Nat.reduceAdd, Nat.reduceSub, List.reduceReplicate]; refine pwx_sr 1 [] (by rfl) fun _ K1 => ?_; simp (disch := omega) only [go_sem, flat3_im, flat3_nm, ints_im, ints_length]; refine K1 _ ?_; clear K1; refine pwx_sr 1 [] (by rfl) fun _ K2 => ?_; simp (disch := omega) only [go_sem, flat3_im, flat3_nm, ints_im, ints_length, repC_i64]; refine K2 _ ?_; clear K2; refine pwp_seq ?_; refine pwx_sr 0 [] (by rfl) fun _ K3 => ?_; simp (disch := omega) only [go_sem, flat3_im, flat3_nm, ints_im, ints_length]; refine K3 _ ?_; clear K3; refine pwp_block ?_; refine pwp_loopF (false :: true :: false :: true :: false :: false :: false :: false :: false :: true :: true :: false :: false :: false :: false :: false :: false :: false :: false :: false :: false :: false :: []) 2 (fun M s => ∃ k : Nat, ∃ W : List Nat, (k ≤ Q.length) ∧ (W.length = Q.length) ∧ (W = List.range k ++ List.replicate (Q.length - k) 0) ∧ Q.length - k = M ∧ s = { slots := .j :: .e (.c (.ptr 0 0)) :: .j :: .e (.c (.msl 1 0 Q.length Q.length 1)) :: .j :: .j :: .j :: .j :: .j :: .e (.c (.int .i64 (Q.length : Int))) :: .e (.c (.int .i64 (k : Int))) :: .j :: .j :: .j :: .j :: .j :: .j :: .j :: .j :: .j :: .j :: .j :: [], st := [.live [.sl Q.length (flat3 Q)], .live (ints W)] }) (n := Q.length) rfl ?_ ?_ ?_
  · refine ⟨0, List.replicate Q.length 0, ?_, ?_, ?_, rfl, ?_⟩
    · omega
    · simp
    · rfl
    · first | rfl | simp [St.cut, keep]
  · refine ⟨rfl, ?_, ?_⟩ <;> first | rfl | (simp [keep, PV.lt, PE.lt, PC.lt, Box.lt, ↓lC_lt]; done) | simp [keep, PV.lt, PE.lt, PC.lt, Box.lt, ↓lC_lt, ↓intC_lt, ↓ratC_lt, ↓u32s_lt]
  · rintro _ _ ⟨k, W, hk, hlW, hW, rfl, rfl⟩
    refine pwx_sr 0 [] (by rfl) fun _ K4 => ?_; simp (disch := omega) only [go_sem, flat3_im, flat3_nm, ints_im, ints_length]; refine K4 _ ?_; clear K4; refine pwp_seq ?_; refine pwp_cond (b := _) (by rfl) (fun hb0 => ?_) (fun hb0 => ?_)
    · replace hb0 := of_decide_eq_true hb0; refine pwp_skip ?_; refine n_then ?_; refine pwp_seq ?_; refine pwp_block ?_; refine pwx_sr 0 [] (by rfl) fun _ K5 => ?_; simp (disch := omega) only [go_sem, flat3_im, flat3_nm, ints_im, ints_length]; refine K5 _ ?_; clear K5; refine pwx_region 0 [] (by rfl) fun _ K6 => ?_; simp (disch := omega) only [go_sem, flat3_im, flat3_nm, ints_im, ints_length, ints_set]; refine K6 _ ?_; clear K6; refine n_block ?_; refine n_then ?_; refine pwx_region 0 [] (by rfl) fun _ K7 => ?_; simp (disch := omega) only [go_sem, flat3_im, flat3_nm, ints_im, ints_length]; refine K7 _ ?_; clear K7; refine n_then ?_; refine ⟨_, ?hdec, ⟨k + 1, W.set k k, ?hf0, ?hf1, ?hf2, rfl, ?heq⟩, ?hok⟩
      case heq => first | rfl | simp [St.cut, keep]
      case hf0 => omega
      case hf1 => rw [List.length_set]; exact hlW
      case hf2 => rw [hW]; exact fill_step (by omega)
      case hdec => omega
      case hok => refine ⟨rfl, ?_, ?_⟩ <;> first | rfl | (simp [keep, PV.lt, PE.lt, PC.lt, Box.lt, ↓lC_lt]; done) | simp [keep, PV.lt, PE.lt, PC.lt, Box.lt, ↓lC_lt, ↓intC_lt, ↓ratC_lt, ↓u32s_lt]
    · replace hb0 := of_decide_eq_false hb0
      obtain rfl : k = Q.length := by omega
      obtain rfl : W = List.range Q.length := by rw [hW]; simp
      refine pwp_exit ?_; refine e_then ?_; refine e_then ?_; refine e_here ?_; refine n_then ?_; refine pwx_sr 0 [] (by rfl) fun _ K8 => ?_; simp (disch := omega) only [go_sem, flat3_im, flat3_nm, ints_im, ints_length]; refine ⟨_, c_SortStable Q hQ hl [1, 0] _ (by simp) (by intro i hi; match i, hi with | 0, _ => exact ⟨_, _, rfl, rfl, rfl⟩ | 1, _ => exact ⟨_, _, rfl, rfl, rfl⟩) rfl, ⟨_, _, ⟨_, ⟨rfl, rfl⟩, rfl, rfl⟩⟩, ?_⟩
      rintro _ _ ⟨_, ⟨rfl, rfl⟩, _, rfl⟩
      simp only [setAll, List.set_cons_succ, List.set_cons_zero]; refine K8 _ ?_; clear K8; refine pwx_sr 0 [] (by rfl) fun _ K10 => ?_; simp (disch := omega) only [go_sem, flat3_im, flat3_nm, ints_im, ints_length]; refine K10 _ ?_; clear K10; refine pwp_ret ?_; refine ⟨Or.inr rfl, ?_⟩; simp (disch := omega) only [go_sem, flat3_im, flat3_nm, ints_im, ints_length]; have hsl := srt_len Q Q.length; rw [if_pos (by omega), List.take_of_length_le (by simp [hsl])]; exact ⟨rfl, rfl⟩

end Go.Proofs.YtdojhoegildiaaaGreat

set_option linter.unusedSimpArgs false
set_option linter.unusedVariables false
set_option maxRecDepth 20000
namespace Go.Proofs.YtdojhoegildiaaaGreat
open Go Go.PL Go.RL
set_option maxHeartbeats 4000000 in
theorem c_swarfref05_Sort (Q : List R3) (hQ : ∀ r ∈ Q, SzR r.a 2 ∧ SzR r.b 2 ∧ SzR r.c 2 ∧ 0 ≤ r.c) (hl : Q.length ≤ 12) :
    Ret Tryz.prog 34 [.c (.sl Q.length (flat3 Q))] (.e (.c (.sl Q.length (ints (srt Q Q.length))))) := by
  refine ret_of_body (md := { mb := true, ap := true }) Tryz.func34 (by kernel_rfl) rfl ?_; simp only [Tryz.f34, go_sem, Nat.reduceAdd, Nat.reduceSub, List.reduceReplicate]; refine pwx_sr 0 [] (by rfl) fun _ K1 => ?_; simp (disch := omega) only [go_sem, flat3_im, flat3_nm, ints_im, ints_length]; refine K1 _ ?_; clear K1; refine pwx_sr 0 [] (by rfl) fun _ K2 => ?_; simp (disch := omega) only [go_sem, flat3_im, flat3_nm, ints_im, ints_length]; refine K2 _ ?_; clear K2; refine pwp_seq ?_; refine pwx_sr 0 [] (by rfl) fun _ K3 => ?_; simp (disch := omega) only [go_sem, flat3_im, flat3_nm, ints_im, ints_length]; refine K3 _ ?_; clear K3; refine pwp_block ?_; refine pwp_loopF (true :: false :: false :: true :: true :: false :: false :: false :: false :: false :: false :: false :: false :: false :: false :: false :: false :: false :: false :: false :: false :: false :: false :: false :: false :: false :: false :: false :: false :: false :: false :: false :: false :: false :: false :: false :: false :: false :: false :: false :: false :: false :: false :: false :: false :: []) 1 (fun M s => ∃ i : Nat, ∃ v3 : PC, ∃ σ : List Box, (i ≤ Q.length) ∧ (GrowS (srt Q i) i v3 σ) ∧ Q.length - i = M ∧ s = { slots := .e (.c (.sl Q.length (flat3 Q))) :: .j :: .j :: .e (.c (v3)) :: .e (.c (.int .i64 (i : Int))) :: .j :: .j :: .j :: .j :: .j :: .j :: .j :: .j :: .j :: .j :: .j :: .j :: .j :: .j :: .j :: .j :: .j :: .j :: .j :: .j :: .j :: .j :: .j :: .j :: .j :: .j :: .j :: .j :: .j :: .j :: .j :: .j :: .j :: .j :: .j :: .j :: .j :: .j :: .j :: .j :: [], st := σ }) (n := Q.length) rfl ?_ ?_ ?_
  · refine ⟨0, .nils, [], ?_, ?_, rfl, ?_⟩
    · omega
    · exact GrowS.start
    · first | rfl | simp [St.cut, keep]
  · refine ⟨rfl, ?_, ?_⟩ <;> first | rfl | (simp [keep, PV.lt, PE.lt, PC.lt, Box.lt, ↓lC_lt]; done) | simp [keep, PV.lt, PE.lt, PC.lt, Box.lt, ↓lC_lt, ↓intC_lt, ↓ratC_lt, ↓u32s_lt]
  · rintro _ _ ⟨i, v3, σ, hi, hG, rfl, rfl⟩
    have hsl := srt_len Q i; refine pwp_seq ?_; refine pwx_sr 0 [] (by rfl) fun _ K4 => ?_; simp (disch := omega) only [go_sem, flat3_im, flat3_nm, ints_im, ints_length]; refine K4 _ ?_; clear K4; refine pwp_cond (b := _) (by rfl) (fun hb0 => ?_) (fun hb0 => ?_)
    · replace hb0 := of_decide_eq_true hb0; refine pwp_skip ?_; refine n_then ?_; refine pwp_seq ?_; refine pwp_block ?_
      rcases hG with ⟨rfl, hi0, rfl⟩ | ⟨J, rfl, rfl⟩
      · refine pwx_sr 0 [] (by rfl) fun _ K5 => ?_; simp (disch := omega) only [go_sem, flat3_im, flat3_nm, ints_im, ints_length]; refine K5 _ ?_; clear K5; refine pwp_seq ?_; refine pwp_block ?_; refine pwp_loopF (true :: false :: false :: true :: true :: true :: false :: false :: false :: false :: false :: false :: false :: false :: false :: false :: false :: false :: false :: false :: false :: false :: false :: false :: false :: false :: false :: false :: false :: false :: false :: false :: false :: false :: false :: false :: false :: false :: false :: false :: false :: false :: false :: false :: false :: []) 1 (fun M s => ∃ k : Nat, ∃ v3 : PC, ∃ σ : List Box, (k ≤ i) ∧ (insK Q i (srt Q i) i = insK Q i (srt Q i) k) ∧ (GrowS (srt Q i) i v3 σ) ∧ k = M ∧ s = { slots := .e (.c (.sl Q.length (flat3 Q))) :: .j :: .j :: .e (.c (v3)) :: .e (.c (.int .i64 (i : Int))) :: .e (.c (.int .i64 (k : Int))) :: .j :: .j :: .j :: .j :: .j :: .j :: .j :: .j :: .j :: .j :: .j :: .j :: .j :: .j :: .j :: .j :: .j :: .j :: .j :: .j :: .j :: .j :: .j :: .j :: .j :: .j :: .j :: .j :: .j :: .j :: .j :: .j :: .j :: .j :: .j :: .j :: .j :: .j :: .j :: [], st := σ }) (n := 0) rfl ?_ ?_ ?_
        · refine ⟨0, .nils, [], ?_, ?_, ?_, rfl, ?_⟩
          · omega
          · rw [hi0]
          · exact .inl ⟨rfl, hi0, rfl⟩
          · first | rfl | simp [St.cut, keep]
        · refine ⟨rfl, ?_, ?_⟩ <;> first | rfl | (simp [keep, PV.lt, PE.lt, PC.lt, Box.lt, ↓lC_lt]; done) | simp [keep, PV.lt, PE.lt, PC.lt, Box.lt, ↓lC_lt, ↓intC_lt, ↓ratC_lt, ↓u32s_lt]
        · rintro _ _ ⟨k, v3, σ, hk, hK, hG, rfl, rfl⟩
          try clear hi0
          refine pwp_seq ?_
          rcases hG.cases hk with ⟨rfl, hi0, rfl, rfl⟩ | ⟨J, rfl, rfl, ⟨rfl, ⟨hin, rfl | hJ⟩ | ⟨hin, rfl | hJ⟩⟩ | ⟨m, rfl, ⟨hin, rfl | hJ⟩ | ⟨hin, rfl | hJ⟩⟩⟩
          · refine pwx_sd Tryz.mixed 0 [some 14, some 15, some 16, some 17, some 18, some 19, some 20, some 21, some 22, some 23, some 24, some 25, some 26, some 27, some 28, some 29, some 30, some 31] (by rfl) [] (by kernel_rfl) (by simp) fun _ K6 => ?_; refine rgnX_take 16 fun _ K7 => ?_; simp (disch := omega) only [go_sem, flat3_im, flat3_nm, ints_im, ints_length, ilt_F]
            first | refine ⟨_, c_swarfref05_Cmp _ _ _ _ _ _ (by omega), ?_⟩ | skip
            refine K7 _ ?_; simp (disch := omega) only [go_sem, flat3_im, flat3_nm, ints_im, ints_length, ilt_F]; refine K6 _ ?_; clear K7 K6; refine pwp_cond (b := false) (by rfl) (fun h => nomatch h) (fun _ => ?_); refine pwp_exit ?_; refine e_then ?_; refine e_then ?_; refine e_here ?_; refine n_then ?_; refine pwx_draw Tryz.mixed 3 [] (by rfl) [] (by kernel_rfl) (by simp) fun _ K8 => ?_; refine rgnX_take 9 fun _ K9 => ?_; simp (disch := omega) only [go_sem, flat3_im, flat3_nm, ints_im, ints_length, List.length_take, List.length_drop, ints_splice, spl1, spl_nil, ints_nil, le_F, le_T, List.length_cons, List.length_nil, cutN_hi, cutN_lo, cutM_hi, cutM_end, cutM_le, cutM_lo, Nat.sub_zero, Nat.mul_one, List.length_nil, Nat.add_zero, ints_one, repC_i64, ints_take, ints_drop, ints_append]; refine K9 _ ?_; refine rgnX_take 1 fun _ K10 => ?_; simp (disch := omega) only [go_sem, flat3_im, flat3_nm, ints_im, ints_length, List.length_take, List.length_drop, ints_splice, spl1, spl_nil, ints_nil, le_F, le_T, List.length_cons, List.length_nil, cutN_hi, cutN_lo, cutM_hi, cutM_end, cutM_le, cutM_lo, Nat.sub_zero, Nat.mul_one, List.length_nil, Nat.add_zero, ints_one, repC_i64, ints_take, ints_drop, ints_append]; intro c2 hc2; refine K10 _ ?_; simp (disch := omega) only [go_sem, flat3_im, flat3_nm, ints_im, ints_length, List.length_take, List.length_drop, ints_splice, spl1, spl_nil, ints_nil, le_F, le_T, List.length_cons, List.length_nil, cutN_hi, cutN_lo, cutM_hi, cutM_end, cutM_le, cutM_lo, Nat.sub_zero, Nat.mul_one, List.length_nil, Nat.add_zero, ints_one, repC_i64, ints_take, ints_drop, ints_append]; refine K8 _ ?_; clear K10 K9 K8; refine n_block ?_; refine n_then ?_; refine pwp_swap 0 2 rfl (by simp) (by simp) ?_; simp only [St.swap, swapL, sw, PV.ren, PE.ren, PC.ren, Box.ren, ints_ren, List.getD_cons_zero, List.getD_cons_succ, List.set_cons_zero, List.set_cons_succ, List.map_cons, List.map_nil, reduceIte, Nat.reduceEqDiff, Nat.zero_ne_one, Nat.one_ne_zero, go_sem_proc]; refine pwx_region 0 [] (by rfl) fun _ K11 => ?_; simp (disch := omega) only [go_sem, flat3_im, flat3_nm, ints_im, ints_length]; refine K11 _ ?_; clear K11; refine n_then ?_; refine ⟨_, ?hdec, ⟨i + 1, ?w3_1, ?w3_2, ?hf0, ?hf1, rfl, ?heq⟩, ?hok⟩
            case heq => first | rfl | simp [St.cut, keep]
            case hf0 => omega
            case hf1 => (subst hi0; exact GrowS.at (List.replicate (c2 - 1) 0) rfl (by simp; omega))
            case hdec => omega
            case hok => refine ⟨rfl, ?_, ?_⟩ <;> first | rfl | (simp [keep, PV.lt, PE.lt, PC.lt, Box.lt, ↓lC_lt]; done) | simp [keep, PV.lt, PE.lt, PC.lt, Box.lt, ↓lC_lt, ↓intC_lt, ↓ratC_lt, ↓u32s_lt]
          · refine pwx_sd Tryz.mixed 0 [some 14, some 15, some 16, some 17, some 18, some 19, some 20, some 21, some 22, some 23, some 24, some 25, some 26, some 27, some 28, some 29, some 30, some 31] (by rfl) [] (by kernel_rfl) (by simp) fun _ K12 => ?_; refine rgnX_take 16 fun _ K13 => ?_; simp (disch := omega) only [go_sem, flat3_im, flat3_nm, ints_im, ints_length, ilt_F]
            first | refine ⟨_, c_swarfref05_Cmp _ _ _ _ _ _ (by omega), ?_⟩ | skip
            refine K13 _ ?_; simp (disch := omega) only [go_sem, flat3_im, flat3_nm, ints_im, ints_length, ilt_F]; refine K12 _ ?_; clear K13 K12; refine pwp_cond (b := false) (by rfl) (fun h => nomatch h) (fun _ => ?_); refine pwp_exit ?_; refine e_then ?_; refine e_then ?_; refine e_here ?_; refine n_then ?_; refine pwx_draw Tryz.mixed 3 [] (by rfl) [] (by kernel_rfl) (by simp) fun _ K14 => ?_; refine rgnX_take 9 fun _ K15 => ?_; simp (disch := omega) only [go_sem, flat3_im, flat3_nm, ints_im, ints_length, List.length_take, List.length_drop, ints_splice, spl1, spl_nil, ints_nil, le_F, le_T, List.length_cons, List.length_nil, cutN_hi, cutN_lo, cutM_hi, cutM_end, cutM_le, cutM_lo, Nat.sub_zero, Nat.mul_one, List.length_nil, Nat.add_zero, ints_one, repC_i64, ints_take, ints_drop, ints_append]; refine K15 _ ?_; refine rgnX_take 1 fun _ K16 => ?_; simp (disch := omega) only [go_sem, flat3_im, flat3_nm, ints_im, ints_length, List.length_take, List.length_drop, ints_splice, spl1, spl_nil, ints_nil, le_F, le_T, List.length_cons, List.length_nil, cutN_hi, cutN_lo, cutM_hi, cutM_end, cutM_le, cutM_lo, Nat.sub_zero, Nat.mul_one, List.length_nil, Nat.add_zero, ints_one, repC_i64, ints_take, ints_drop, ints_append]; intro c2 hc2; refine K16 _ ?_; simp (disch := omega) only [go_sem, flat3_im, flat3_nm, ints_im, ints_length, List.length_take, List.length_drop, ints_splice, spl1, spl_nil, ints_nil, le_F, le_T, List.length_cons, List.length_nil, cutN_hi, cutN_lo, cutM_hi, cutM_end, cutM_le, cutM_lo, Nat.sub_zero, Nat.mul_one, List.length_nil, Nat.add_zero, ints_one, repC_i64, ints_take, ints_drop, ints_append]; refine K14 _ ?_; clear K16 K15 K14; refine n_block ?_; refine n_then ?_; refine pwp_swap 0 3 rfl (by simp) (by simp) ?_; simp only [St.swap, swapL, sw, PV.ren, PE.ren, PC.ren, Box.ren, ints_ren, List.getD_cons_zero, List.getD_cons_succ, List.set_cons_zero, List.set_cons_succ, List.map_cons, List.map_nil, reduceIte, Nat.reduceEqDiff, Nat.zero_ne_one, Nat.one_ne_zero, go_sem_proc]; refine pwx_region 0 [] (by rfl) fun _ K17 => ?_; simp (disch := omega) only [go_sem, flat3_im, flat3_nm, ints_im, ints_length]; refine K17 _ ?_; clear K17; refine n_then ?_; refine ⟨_, ?hdec, ⟨i + 1, ?w4_1, ?w4_2, ?hf0, ?hf1, rfl, ?heq⟩, ?hok⟩
            case heq => first | rfl | simp [St.cut, keep]
            case hf0 => omega
            case hf1 => (exact GrowS.fin (k := 0) hK (by omega) (List.replicate (c2 - 1) 0) (by rw [List.eq_nil_of_length_eq_zero (hsl.trans hin)]; rfl) (by simp; omega))
            case hdec => omega
            case hok => refine ⟨rfl, ?_, ?_⟩ <;> first | rfl | (simp [keep, PV.lt, PE.lt, PC.lt, Box.lt, ↓lC_lt]; done) | simp [keep, PV.lt, PE.lt, PC.lt, Box.lt, ↓lC_lt, ↓intC_lt, ↓ratC_lt, ↓u32s_lt]
          · refine pwx_sd Tryz.mixed 0 [some 14, some 15, some 16, some 17, some 18, some 19, some 20, some 21, some 22, some 23, some 24, some 25, some 26, some 27, some 28, some 29, some 30, some 31] (by rfl) [] (by kernel_rfl) (by simp) fun _ K18 => ?_; refine rgnX_take 16 fun _ K19 => ?_; simp (disch := omega) only [go_sem, flat3_im, flat3_nm, ints_im, ints_length, ilt_F]
            first | refine ⟨_, c_swarfref05_Cmp _ _ _ _ _ _ (by omega), ?_⟩ | skip
            refine K19 _ ?_; simp (disch := omega) only [go_sem, flat3_im, flat3_nm, ints_im, ints_length, ilt_F]; refine K18 _ ?_; clear K19 K18; refine pwp_cond (b := false) (by rfl) (fun h => nomatch h) (fun _ => ?_); refine pwp_exit ?_; refine e_then ?_; refine e_then ?_; refine e_here ?_; refine n_then ?_; refine pwx_draw Tryz.mixed 3 [] (by rfl) [] (by kernel_rfl) (by simp) fun _ K20 => ?_; refine rgnX_take 9 fun _ K21 => ?_; simp (disch := omega) only [go_sem, flat3_im, flat3_nm, ints_im, ints_length, List.length_take, List.length_drop, ints_splice, spl1, spl_nil, ints_nil, le_F, le_T, List.length_cons, List.length_nil, cutN_hi, cutN_lo, cutM_hi, cutM_end, cutM_le, cutM_lo, Nat.sub_zero, Nat.mul_one, List.length_nil, Nat.add_zero, ints_one, repC_i64, ints_take, ints_drop, ints_append]; refine K21 _ ?_; refine rgnX_take 1 fun _ K22 => ?_; simp (disch := omega) only [go_sem, flat3_im, flat3_nm, ints_im, ints_length, List.length_take, List.length_drop, ints_splice, spl1, spl_nil, ints_nil, le_F, le_T, List.length_cons, List.length_nil, cutN_hi, cutN_lo, cutM_hi, cutM_end, cutM_le, cutM_lo, Nat.sub_zero, Nat.mul_one, List.length_nil, Nat.add_zero, ints_one, repC_i64, ints_take, ints_drop, ints_append]; refine K22 _ ?_; simp (disch := omega) only [go_sem, flat3_im, flat3_nm, ints_im, ints_length, List.length_take, List.length_drop, ints_splice, spl1, spl_nil, ints_nil, le_F, le_T, List.length_cons, List.length_nil, cutN_hi, cutN_lo, cutM_hi, cutM_end, cutM_le, cutM_lo, Nat.sub_zero, Nat.mul_one, List.length_nil, Nat.add_zero, ints_one, repC_i64, ints_take, ints_drop, ints_append]; refine K20 _ ?_; clear K22 K21 K20; refine n_block ?_; refine n_then ?_; skip; refine pwx_region 0 [] (by rfl) fun _ K23 => ?_; simp (disch := omega) only [go_sem, flat3_im, flat3_nm, ints_im, ints_length]; refine K23 _ ?_; clear K23; refine n_then ?_; refine ⟨_, ?hdec, ⟨i + 1, ?w5_1, ?w5_2, ?hf0, ?hf1, rfl, ?heq⟩, ?hok⟩
            case heq => first | rfl | simp [St.cut, keep]
            case hf0 => omega
            case hf1 => (exact GrowS.fin (k := 0) hK (by omega) (J.drop 1) (by rw [List.eq_nil_of_length_eq_zero (hsl.trans hin)]; rfl) (by simp; omega))
            case hdec => omega
            case hok => refine ⟨rfl, ?_, ?_⟩ <;> first | rfl | (simp [keep, PV.lt, PE.lt, PC.lt, Box.lt, ↓lC_lt]; done) | simp [keep, PV.lt, PE.lt, PC.lt, Box.lt, ↓lC_lt, ↓intC_lt, ↓ratC_lt, ↓u32s_lt]
          · refine pwx_sd Tryz.mixed 0 [some 14, some 15, some 16, some 17, some 18, some 19, some 20, some 21, some 22, some 23, some 24, some 25, some 26, some 27, some 28, some 29, some 30, some 31] (by rfl) [] (by kernel_rfl) (by simp) fun _ K24 => ?_; refine rgnX_take 16 fun _ K25 => ?_; simp (disch := omega) only [go_sem, flat3_im, flat3_nm, ints_im, ints_length, ilt_F]
            first | refine ⟨_, c_swarfref05_Cmp _ _ _ _ _ _ (by omega), ?_⟩ | skip
            refine K25 _ ?_; simp (disch := omega) only [go_sem, flat3_im, flat3_nm, ints_im, ints_length, ilt_F]; refine K24 _ ?_; clear K25 K24; refine pwp_cond (b := false) (by rfl) (fun h => nomatch h) (fun _ => ?_); refine pwp_exit ?_; refine e_then ?_; refine e_then ?_; refine e_here ?_; refine n_then ?_; refine pwx_draw Tryz.mixed 3 [] (by rfl) [] (by kernel_rfl) (by simp) fun _ K26 => ?_; refine rgnX_take 9 fun _ K27 => ?_; simp (disch := omega) only [go_sem, flat3_im, flat3_nm, ints_im, ints_length, List.length_take, List.length_drop, ints_splice, spl1, spl_nil, ints_nil, le_F, le_T, List.length_cons, List.length_nil, cutN_hi, cutN_lo, cutM_hi, cutM_end, cutM_le, cutM_lo, Nat.sub_zero, Nat.mul_one, List.length_nil, Nat.add_zero, ints_one, repC_i64, ints_take, ints_drop, ints_append]; intro c hc1; refine K27 _ ?_; refine rgnX_take 1 fun _ K28 => ?_; simp (disch := omega) only [go_sem, flat3_im, flat3_nm, ints_im, ints_length, List.length_take, List.length_drop, ints_splice, spl1, spl_nil, ints_nil, le_F, le_T, List.length_cons, List.length_nil, cutN_hi, cutN_lo, cutM_hi, cutM_end, cutM_le, cutM_lo, Nat.sub_zero, Nat.mul_one, List.length_nil, Nat.add_zero, ints_one, repC_i64, ints_take, ints_drop, ints_append]; intro c2 hc2; refine K28 _ ?_; simp (disch := omega) only [go_sem, flat3_im, flat3_nm, ints_im, ints_length, List.length_take, List.length_drop, ints_splice, spl1, spl_nil, ints_nil, le_F, le_T, List.length_cons, List.length_nil, cutN_hi, cutN_lo, cutM_hi, cutM_end, cutM_le, cutM_lo, Nat.sub_zero, Nat.mul_one, List.length_nil, Nat.add_zero, ints_one, repC_i64, ints_take, ints_drop, ints_append]; refine K26 _ ?_; clear K28 K27 K26; refine n_block ?_; refine n_then ?_; refine pwp_swap 0 3 rfl (by simp) (by simp) ?_; simp only [St.swap, swapL, sw, PV.ren, PE.ren, PC.ren, Box.ren, ints_ren, List.getD_cons_zero, List.getD_cons_succ, List.set_cons_zero, List.set_cons_succ, List.map_cons, List.map_nil, reduceIte, Nat.reduceEqDiff, Nat.zero_ne_one, Nat.one_ne_zero, go_sem_proc]; refine pwx_region 0 [] (by rfl) fun _ K29 => ?_; simp (disch := omega) only [go_sem, flat3_im, flat3_nm, ints_im, ints_length]; refine K29 _ ?_; clear K29; refine n_then ?_; refine ⟨_, ?hdec, ⟨i + 1, ?w6_1, ?w6_2, ?hf0, ?hf1, rfl, ?heq⟩, ?hok⟩
            case heq => first | rfl | simp [St.cut, keep]
            case hf0 => omega
            case hf1 => (exact GrowS.fin (k := 0) hK (by omega) (List.replicate (c2 - (1 + i)) 0) (finC (S := srt Q i) (i := i) (k := 0) (c := c - (1 + i)) (R := List.replicate (c2 - (1 + i)) 0) hsl (Nat.zero_le _)) (by simp; omega))
            case hdec => omega
            case hok => refine ⟨rfl, ?_, ?_⟩ <;> first | rfl | (simp [keep, PV.lt, PE.lt, PC.lt, Box.lt, ↓lC_lt]; done) | simp [keep, PV.lt, PE.lt, PC.lt, Box.lt, ↓lC_lt, ↓intC_lt, ↓ratC_lt, ↓u32s_lt]
          · refine pwx_sd Tryz.mixed 0 [some 14, some 15, some 16, some 17, some 18, some 19, some 20, some 21, some 22, some 23, some 24, some 25, some 26, some 27, some 28, some 29, some 30, some 31] (by rfl) [] (by kernel_rfl) (by simp) fun _ K30 => ?_; refine rgnX_take 16 fun _ K31 => ?_; simp (disch := omega) only [go_sem, flat3_im, flat3_nm, ints_im, ints_length, ilt_F]
            first | refine ⟨_, c_swarfref05_Cmp _ _ _ _ _ _ (by omega), ?_⟩ | skip
            refine K31 _ ?_; simp (disch := omega) only [go_sem, flat3_im, flat3_nm, ints_im, ints_length, ilt_F]; refine K30 _ ?_; clear K31 K30; refine pwp_cond (b := false) (by rfl) (fun h => nomatch h) (fun _ => ?_); refine pwp_exit ?_; refine e_then ?_; refine e_then ?_; refine e_here ?_; refine n_then ?_; refine pwx_draw Tryz.mixed 3 [] (by rfl) [] (by kernel_rfl) (by simp) fun _ K32 => ?_; refine rgnX_take 9 fun _ K33 => ?_; simp (disch := omega) only [go_sem, flat3_im, flat3_nm, ints_im, ints_length, List.length_take, List.length_drop, ints_splice, spl1, spl_nil, ints_nil, le_F, le_T, List.length_cons, List.length_nil, cutN_hi, cutN_lo, cutM_hi, cutM_end, cutM_le, cutM_lo, Nat.sub_zero, Nat.mul_one, List.length_nil, Nat.add_zero, ints_one, repC_i64, ints_take, ints_drop, ints_append]; intro c hc1; refine K33 _ ?_; refine rgnX_take 1 fun _ K34 => ?_; simp (disch := omega) only [go_sem, flat3_im, flat3_nm, ints_im, ints_length, List.length_take, List.length_drop, ints_splice, spl1, spl_nil, ints_nil, le_F, le_T, List.length_cons, List.length_nil, cutN_hi, cutN_lo, cutM_hi, cutM_end, cutM_le, cutM_lo, Nat.sub_zero, Nat.mul_one, List.length_nil, Nat.add_zero, ints_one, repC_i64, ints_take, ints_drop, ints_append]; refine K34 _ ?_; simp (disch := omega) only [go_sem, flat3_im, flat3_nm, ints_im, ints_length, List.length_take, List.length_drop, ints_splice, spl1, spl_nil, ints_nil, le_F, le_T, List.length_cons, List.length_nil, cutN_hi, cutN_lo, cutM_hi, cutM_end, cutM_le, cutM_lo, Nat.sub_zero, Nat.mul_one, List.length_nil, Nat.add_zero, ints_one, repC_i64, ints_take, ints_drop, ints_append]; refine K32 _ ?_; clear K34 K33 K32; refine n_block ?_; refine n_then ?_; skip; refine pwx_region 0 [] (by rfl) fun _ K35 => ?_; simp (disch := omega) only [go_sem, flat3_im, flat3_nm, ints_im, ints_length]; refine K35 _ ?_; clear K35; refine n_then ?_; refine ⟨_, ?hdec, ⟨i + 1, ?w7_1, ?w7_2, ?hf0, ?hf1, rfl, ?heq⟩, ?hok⟩
            case heq => first | rfl | simp [St.cut, keep]
            case hf0 => omega
            case hf1 => (exact GrowS.fin (k := 0) hK (by omega) (J.drop 1) (finD (S := srt Q i) (J := J) (i := i) (k := 0) (c := c - (1 + i)) hsl (Nat.zero_le _) (by omega)) (by simp; omega))
            case hdec => omega
            case hok => refine ⟨rfl, ?_, ?_⟩ <;> first | rfl | (simp [keep, PV.lt, PE.lt, PC.lt, Box.lt, ↓lC_lt]; done) | simp [keep, PV.lt, PE.lt, PC.lt, Box.lt, ↓lC_lt, ↓intC_lt, ↓ratC_lt, ↓u32s_lt]
          · have hil : m < i := by omega
            have hxl : (dg (srt Q i) m) < Q.length := Nat.lt_trans (srt_getD Q (by omega)) (by omega)
            have hql : i < Q.length := by omega
            obtain ⟨ix1, ix2, ix3, cx⟩ := hQ _ (List.mem_of_getElem? (get3 hxl)); obtain ⟨iy1, iy2, iy3, cy⟩ := hQ _ (List.mem_of_getElem? (get3 hql)); have h1 := @idx3 Q (dg (srt Q i) m) Q.length hxl rfl; have h2 := @idx3 Q i Q.length hql rfl; refine pwx_sd Tryz.mixed 0 [some 14, some 15, some 16, some 17, some 18, some 19, some 20, some 21, some 22, some 23, some 24, some 25, some 26, some 27, some 28, some 29, some 30, some 31] (by rfl) [] (by kernel_rfl) (by simp) fun _ K36 => ?_; refine rgnX_take 16 fun _ K37 => ?_; simp (disch := omega) only [go_sem, flat3_im, flat3_nm, ints_im, ints_length, ilt_T, ints_get, h1, h2]
            first | refine ⟨_, c_swarfref05_Cmp _ _ _ _ _ _ (by omega), ?_⟩ | skip
            refine K37 _ ?_; simp (disch := omega) only [go_sem, flat3_im, flat3_nm, ints_im, ints_length, ilt_T, ints_get, h1, h2]; refine K36 _ ?_; clear K37 K36; refine pwp_cond (b := _) (by rfl) (fun hb6 => ?_) (fun hb6 => ?_)
            · have hb1 : 0 < c3 Q (dg (srt Q i) m) i := of_decide_eq_true hb6; refine pwp_skip ?_; refine n_then ?_; refine pwp_block ?_; refine pwx_region 0 [] (by rfl) fun _ K38 => ?_; simp (disch := omega) only [go_sem, flat3_im, flat3_nm, ints_im, ints_length]; refine K38 _ ?_; clear K38; refine n_block ?_; refine n_then ?_; refine ⟨_, ?hdec, ⟨m, ?w8_1, ?w8_2, ?hf0, ?hf1, ?hf2, rfl, ?heq⟩, ?hok⟩
              case heq => first | rfl | simp [St.cut, keep]
              case hf0 => omega
              case hf1 => rw [hK]; exact insK_step hb1
              case hf2 => first | exact .inr ⟨J, rfl, rfl⟩ | exact .inr ⟨[], rfl, by rw [List.append_nil]; rfl⟩
              case hdec => omega
              case hok => refine ⟨rfl, ?_, ?_⟩ <;> first | rfl | (simp [keep, PV.lt, PE.lt, PC.lt, Box.lt, ↓lC_lt]; done) | simp [keep, PV.lt, PE.lt, PC.lt, Box.lt, ↓lC_lt, ↓intC_lt, ↓ratC_lt, ↓u32s_lt]
            · have hb1 : ¬ 0 < c3 Q (dg (srt Q i) m) i := of_decide_eq_false hb6; refine pwp_exit ?_; refine e_then ?_; refine e_then ?_; refine e_here ?_; refine n_then ?_; refine pwx_draw Tryz.mixed 3 [] (by rfl) [] (by kernel_rfl) (by simp) fun _ K39 => ?_; refine rgnX_take 9 fun _ K40 => ?_; simp (disch := omega) only [go_sem, flat3_im, flat3_nm, ints_im, ints_length, List.length_take, List.length_drop, ints_splice, spl1, spl_nil, ints_nil, le_F, le_T, List.length_cons, List.length_nil, cutN_hi, cutN_lo, cutM_hi, cutM_end, cutM_le, cutM_lo, Nat.sub_zero, Nat.mul_one, List.length_nil, Nat.add_zero, ints_one, repC_i64, ints_take, ints_drop, ints_append]; refine K40 _ ?_; refine rgnX_take 1 fun _ K41 => ?_; simp (disch := omega) only [go_sem, flat3_im, flat3_nm, ints_im, ints_length, List.length_take, List.length_drop, ints_splice, spl1, spl_nil, ints_nil, le_F, le_T, List.length_cons, List.length_nil, cutN_hi, cutN_lo, cutM_hi, cutM_end, cutM_le, cutM_lo, Nat.sub_zero, Nat.mul_one, List.length_nil, Nat.add_zero, ints_one, repC_i64, ints_take, ints_drop, ints_append]; intro c2 hc2; refine K41 _ ?_; simp (disch := omega) only [go_sem, flat3_im, flat3_nm, ints_im, ints_length, List.length_take, List.length_drop, ints_splice, spl1, spl_nil, ints_nil, le_F, le_T, List.length_cons, List.length_nil, cutN_hi, cutN_lo, cutM_hi, cutM_end, cutM_le, cutM_lo, Nat.sub_zero, Nat.mul_one, List.length_nil, Nat.add_zero, ints_one, repC_i64, ints_take, ints_drop, ints_append]; refine K39 _ ?_; clear K41 K40 K39; refine n_block ?_; refine n_then ?_; refine pwp_swap 0 3 rfl (by simp) (by simp) ?_; simp only [St.swap, swapL, sw, PV.ren, PE.ren, PC.ren, Box.ren, ints_ren, List.getD_cons_zero, List.getD_cons_succ, List.set_cons_zero, List.set_cons_succ, List.map_cons, List.map_nil, reduceIte, Nat.reduceEqDiff, Nat.zero_ne_one, Nat.one_ne_zero, go_sem_proc]; refine pwx_region 0 [] (by rfl) fun _ K42 => ?_; simp (disch := omega) only [go_sem, flat3_im, flat3_nm, ints_im, ints_length]; refine K42 _ ?_; clear K42; refine n_then ?_; refine ⟨_, ?hdec, ⟨i + 1, ?w9_1, ?w9_2, ?hf0, ?hf1, rfl, ?heq⟩, ?hok⟩
              case heq => first | rfl | simp [St.cut, keep]
              case hf0 => omega
              case hf1 => (exact GrowS.fin (hK.trans (insK_stop hb1)) (by omega) (List.replicate (c2 - (m + 1 + 1)) 0) (finA (hsl.trans hin)) (by simp; omega))
              case hdec => omega
              case hok => refine ⟨rfl, ?_, ?_⟩ <;> first | rfl | (simp [keep, PV.lt, PE.lt, PC.lt, Box.lt, ↓lC_lt]; done) | simp [keep, PV.lt, PE.lt, PC.lt, Box.lt, ↓lC_lt, ↓intC_lt, ↓ratC_lt, ↓u32s_lt]
          · have hil : m < i := by omega
            have hxl : (dg (srt Q i) m) < Q.length := Nat.lt_trans (srt_getD Q (by omega)) (by omega)
            have hql : i < Q.length := by omega
            obtain ⟨ix1, ix2, ix3, cx⟩ := hQ _ (List.mem_of_getElem? (get3 hxl)); obtain ⟨iy1, iy2, iy3, cy⟩ := hQ _ (List.mem_of_getElem? (get3 hql)); have h1 := @idx3 Q (dg (srt Q i) m) Q.length hxl rfl; have h2 := @idx3 Q i Q.length hql rfl; have hx1 : (srt Q i ++ J).getD m 0 = dg (srt Q i) m := getD_app (by omega); have hx2 : dg (srt Q i ++ J) m = dg (srt Q i) m := hx1; refine pwx_sd Tryz.mixed 0 [some 14, some 15, some 16, some 17, some 18, some 19, some 20, some 21, some 22, some 23, some 24, some 25, some 26, some 27, some 28, some 29, some 30, some 31] (by rfl) [] (by kernel_rfl) (by simp) fun _ K43 => ?_; refine rgnX_take 16 fun _ K44 => ?_; simp (disch := omega) only [go_sem, flat3_im, flat3_nm, ints_im, ints_length, ilt_T, ints_get_app, h1, h2]
            first | refine ⟨_, c_swarfref05_Cmp _ _ _ _ _ _ (by omega), ?_⟩ | skip
            refine K44 _ ?_; simp (disch := omega) only [go_sem, flat3_im, flat3_nm, ints_im, ints_length, ilt_T, ints_get_app, h1, h2]; refine K43 _ ?_; clear K44 K43; refine pwp_cond (b := _) (by rfl) (fun hb7 => ?_) (fun hb7 => ?_)
            · have hb1 : 0 < c3 Q (dg (srt Q i) m) i := of_decide_eq_true hb7; refine pwp_skip ?_; refine n_then ?_; refine pwp_block ?_; refine pwx_region 0 [] (by rfl) fun _ K45 => ?_; simp (disch := omega) only [go_sem, flat3_im, flat3_nm, ints_im, ints_length]; refine K45 _ ?_; clear K45; refine n_block ?_; refine n_then ?_; refine ⟨_, ?hdec, ⟨m, ?w10_1, ?w10_2, ?hf0, ?hf1, ?hf2, rfl, ?heq⟩, ?hok⟩
              case heq => first | rfl | simp [St.cut, keep]
              case hf0 => omega
              case hf1 => rw [hK]; exact insK_step hb1
              case hf2 => first | exact .inr ⟨J, rfl, rfl⟩ | exact .inr ⟨[], rfl, by rw [List.append_nil]; rfl⟩
              case hdec => omega
              case hok => refine ⟨rfl, ?_, ?_⟩ <;> first | rfl | (simp [keep, PV.lt, PE.lt, PC.lt, Box.lt, ↓lC_lt]; done) | simp [keep, PV.lt, PE.lt, PC.lt, Box.lt, ↓lC_lt, ↓intC_lt, ↓ratC_lt, ↓u32s_lt]
            · have hb1 : ¬ 0 < c3 Q (dg (srt Q i) m) i := of_decide_eq_false hb7; refine pwp_exit ?_; refine e_then ?_; refine e_then ?_; refine e_here ?_; refine n_then ?_; refine pwx_draw Tryz.mixed 3 [] (by rfl) [] (by kernel_rfl) (by simp) fun _ K46 => ?_; refine rgnX_take 9 fun _ K47 => ?_; simp (disch := omega) only [go_sem, flat3_im, flat3_nm, ints_im, ints_length, List.length_take, List.length_drop, ints_splice, spl1, spl_nil, ints_nil, le_F, le_T, List.length_cons, List.length_nil, cutN_hi, cutN_lo, cutM_hi, cutM_end, cutM_le, cutM_lo, Nat.sub_zero, Nat.mul_one, List.length_nil, Nat.add_zero, ints_one, repC_i64, ints_take, ints_drop, ints_append]; refine K47 _ ?_; refine rgnX_take 1 fun _ K48 => ?_; simp (disch := omega) only [go_sem, flat3_im, flat3_nm, ints_im, ints_length, List.length_take, List.length_drop, ints_splice, spl1, spl_nil, ints_nil, le_F, le_T, List.length_cons, List.length_nil, cutN_hi, cutN_lo, cutM_hi, cutM_end, cutM_le, cutM_lo, Nat.sub_zero, Nat.mul_one, List.length_nil, Nat.add_zero, ints_one, repC_i64, ints_take, ints_drop, ints_append]; refine K48 _ ?_; simp (disch := omega) only [go_sem, flat3_im, flat3_nm, ints_im, ints_length, List.length_take, List.length_drop, ints_splice, spl1, spl_nil, ints_nil, le_F, le_T, List.length_cons, List.length_nil, cutN_hi, cutN_lo, cutM_hi, cutM_end, cutM_le, cutM_lo, Nat.sub_zero, Nat.mul_one, List.length_nil, Nat.add_zero, ints_one, repC_i64, ints_take, ints_drop, ints_append]; refine K46 _ ?_; clear K48 K47 K46; refine n_block ?_; refine n_then ?_; skip; refine pwx_region 0 [] (by rfl) fun _ K49 => ?_; simp (disch := omega) only [go_sem, flat3_im, flat3_nm, ints_im, ints_length]; refine K49 _ ?_; clear K49; refine n_then ?_; refine ⟨_, ?hdec, ⟨i + 1, ?w11_1, ?w11_2, ?hf0, ?hf1, rfl, ?heq⟩, ?hok⟩
              case heq => first | rfl | simp [St.cut, keep]
              case hf0 => omega
              case hf1 => (exact GrowS.fin (hK.trans (insK_stop hb1)) (by omega) (J.drop 1) (finB (hsl.trans hin)) (by simp; omega))
              case hdec => omega
              case hok => refine ⟨rfl, ?_, ?_⟩ <;> first | rfl | (simp [keep, PV.lt, PE.lt, PC.lt, Box.lt, ↓lC_lt]; done) | simp [keep, PV.lt, PE.lt, PC.lt, Box.lt, ↓lC_lt, ↓intC_lt, ↓ratC_lt, ↓u32s_lt]
          · have hil : m < i := by omega
            have hxl : (dg (srt Q i) m) < Q.length := Nat.lt_trans (srt_getD Q (by omega)) (by omega)
            have hql : i < Q.length := by omega
            obtain ⟨ix1, ix2, ix3, cx⟩ := hQ _ (List.mem_of_getElem? (get3 hxl)); obtain ⟨iy1, iy2, iy3, cy⟩ := hQ _ (List.mem_of_getElem? (get3 hql)); have h1 := @idx3 Q (dg (srt Q i) m) Q.length hxl rfl; have h2 := @idx3 Q i Q.length hql rfl; refine pwx_sd Tryz.mixed 0 [some 14, some 15, some 16, some 17, some 18, some 19, some 20, some 21, some 22, some 23, some 24, some 25, some 26, some 27, some 28, some 29, some 30, some 31] (by rfl) [] (by kernel_rfl) (by simp) fun _ K50 => ?_; refine rgnX_take 16 fun _ K51 => ?_; simp (disch := omega) only [go_sem, flat3_im, flat3_nm, ints_im, ints_length, ilt_T, ints_get, h1, h2]
            first | refine ⟨_, c_swarfref05_Cmp _ _ _ _ _ _ (by omega), ?_⟩ | skip
            refine K51 _ ?_; simp (disch := omega) only [go_sem, flat3_im, flat3_nm, ints_im, ints_length, ilt_T, ints_get, h1, h2]; refine K50 _ ?_; clear K51 K50; refine pwp_cond (b := _) (by rfl) (fun hb8 => ?_) (fun hb8 => ?_)
            · have hb1 : 0 < c3 Q (dg (srt Q i) m) i := of_decide_eq_true hb8; refine pwp_skip ?_; refine n_then ?_; refine pwp_block ?_; refine pwx_region 0 [] (by rfl) fun _ K52 => ?_; simp (disch := omega) only [go_sem, flat3_im, flat3_nm, ints_im, ints_length]; refine K52 _ ?_; clear K52; refine n_block ?_; refine n_then ?_; refine ⟨_, ?hdec, ⟨m, ?w12_1, ?w12_2, ?hf0, ?hf1, ?hf2, rfl, ?heq⟩, ?hok⟩
              case heq => first | rfl | simp [St.cut, keep]
              case hf0 => omega
              case hf1 => rw [hK]; exact insK_step hb1
              case hf2 => first | exact .inr ⟨J, rfl, rfl⟩ | exact .inr ⟨[], rfl, by rw [List.append_nil]; rfl⟩
              case hdec => omega
              case hok => refine ⟨rfl, ?_, ?_⟩ <;> first | rfl | (simp [keep, PV.lt, PE.lt, PC.lt, Box.lt, ↓lC_lt]; done) | simp [keep, PV.lt, PE.lt, PC.lt, Box.lt, ↓lC_lt, ↓intC_lt, ↓ratC_lt, ↓u32s_lt]
            · have hb1 : ¬ 0 < c3 Q (dg (srt Q i) m) i := of_decide_eq_false hb8; refine pwp_exit ?_; refine e_then ?_; refine e_then ?_; refine e_here ?_; refine n_then ?_; refine pwx_draw Tryz.mixed 3 [] (by rfl) [] (by kernel_rfl) (by simp) fun _ K53 => ?_; refine rgnX_take 9 fun _ K54 => ?_; simp (disch := omega) only [go_sem, flat3_im, flat3_nm, ints_im, ints_length, List.length_take, List.length_drop, ints_splice, spl1, spl_nil, ints_nil, le_F, le_T, List.length_cons, List.length_nil, cutN_hi, cutN_lo, cutM_hi, cutM_end, cutM_le, cutM_lo, Nat.sub_zero, Nat.mul_one, List.length_nil, Nat.add_zero, ints_one, repC_i64, ints_take, ints_drop, ints_append]; intro c hc1; refine K54 _ ?_; refine rgnX_take 1 fun _ K55 => ?_; simp (disch := omega) only [go_sem, flat3_im, flat3_nm, ints_im, ints_length, List.length_take, List.length_drop, ints_splice, spl1, spl_nil, ints_nil, le_F, le_T, List.length_cons, List.length_nil, cutN_hi, cutN_lo, cutM_hi, cutM_end, cutM_le, cutM_lo, Nat.sub_zero, Nat.mul_one, List.length_nil, Nat.add_zero, ints_one, repC_i64, ints_take, ints_drop, ints_append]; intro c2 hc2; refine K55 _ ?_; simp (disch := omega) only [go_sem, flat3_im, flat3_nm, ints_im, ints_length, List.length_take, List.length_drop, ints_splice, spl1, spl_nil, ints_nil, le_F, le_T, List.length_cons, List.length_nil, cutN_hi, cutN_lo, cutM_hi, cutM_end, cutM_le, cutM_lo, Nat.sub_zero, Nat.mul_one, List.length_nil, Nat.add_zero, ints_one, repC_i64, ints_take, ints_drop, ints_append]; refine K53 _ ?_; clear K55 K54 K53; refine n_block ?_; refine n_then ?_; refine pwp_swap 0 3 rfl (by simp) (by simp) ?_; simp only [St.swap, swapL, sw, PV.ren, PE.ren, PC.ren, Box.ren, ints_ren, List.getD_cons_zero, List.getD_cons_succ, List.set_cons_zero, List.set_cons_succ, List.map_cons, List.map_nil, reduceIte, Nat.reduceEqDiff, Nat.zero_ne_one, Nat.one_ne_zero, go_sem_proc]; refine pwx_region 0 [] (by rfl) fun _ K56 => ?_; simp (disch := omega) only [go_sem, flat3_im, flat3_nm, ints_im, ints_length]; refine K56 _ ?_; clear K56; refine n_then ?_; refine ⟨_, ?hdec, ⟨i + 1, ?w13_1, ?w13_2, ?hf0, ?hf1, rfl, ?heq⟩, ?hok⟩
              case heq => first | rfl | simp [St.cut, keep]
              case hf0 => omega
              case hf1 => (exact GrowS.fin (hK.trans (insK_stop hb1)) (by omega) (List.replicate (c2 - (m + 1 + (1 + (i - (m + 1))))) 0) (finC hsl (by omega)) (by simp; omega))
              case hdec => omega
              case hok => refine ⟨rfl, ?_, ?_⟩ <;> first | rfl | (simp [keep, PV.lt, PE.lt, PC.lt, Box.lt, ↓lC_lt]; done) | simp [keep, PV.lt, PE.lt, PC.lt, Box.lt, ↓lC_lt, ↓intC_lt, ↓ratC_lt, ↓u32s_lt]
          · have hil : m < i := by omega
            have hxl : (dg (srt Q i) m) < Q.length := Nat.lt_trans (srt_getD Q (by omega)) (by omega)
            have hql : i < Q.length := by omega
            obtain ⟨ix1, ix2, ix3, cx⟩ := hQ _ (List.mem_of_getElem? (get3 hxl)); obtain ⟨iy1, iy2, iy3, cy⟩ := hQ _ (List.mem_of_getElem? (get3 hql)); have h1 := @idx3 Q (dg (srt Q i) m) Q.length hxl rfl; have h2 := @idx3 Q i Q.length hql rfl; have hx1 : (srt Q i ++ J).getD m 0 = dg (srt Q i) m := getD_app (by omega); have hx2 : dg (srt Q i ++ J) m = dg (srt Q i) m := hx1; refine pwx_sd Tryz.mixed 0 [some 14, some 15, some 16, some 17, some 18, some 19, some 20, some 21, some 22, some 23, some 24, some 25, some 26, some 27, some 28, some 29, some 30, some 31] (by rfl) [] (by kernel_rfl) (by simp) fun _ K57 => ?_; refine rgnX_take 16 fun _ K58 => ?_; simp (disch := omega) only [go_sem, flat3_im, flat3_nm, ints_im, ints_length, ilt_T, ints_get_app, h1, h2]
            first | refine ⟨_, c_swarfref05_Cmp _ _ _ _ _ _ (by omega), ?_⟩ | skip
            refine K58 _ ?_; simp (disch := omega) only [go_sem, flat3_im, flat3_nm, ints_im, ints_length, ilt_T, ints_get_app, h1, h2]; refine K57 _ ?_; clear K58 K57; refine pwp_cond (b := _) (by rfl) (fun hb9 => ?_) (fun hb9 => ?_)
            · have hb1 : 0 < c3 Q (dg (srt Q i) m) i := of_decide_eq_true hb9; refine pwp_skip ?_; refine n_then ?_; refine pwp_block ?_; refine pwx_region 0 [] (by rfl) fun _ K59 => ?_; simp (disch := omega) only [go_sem, flat3_im, flat3_nm, ints_im, ints_length]; refine K59 _ ?_; clear K59; refine n_block ?_; refine n_then ?_; refine ⟨_, ?hdec, ⟨m, ?w14_1, ?w14_2, ?hf0, ?hf1, ?hf2, rfl, ?heq⟩, ?hok⟩
              case heq => first | rfl | simp [St.cut, keep]
              case hf0 => omega
              case hf1 => rw [hK]; exact insK_step hb1
              case hf2 => first | exact .inr ⟨J, rfl, rfl⟩ | exact .inr ⟨[], rfl, by rw [List.append_nil]; rfl⟩
              case hdec => omega
              case hok => refine ⟨rfl, ?_, ?_⟩ <;> first | rfl | (simp [keep, PV.lt, PE.lt, PC.lt, Box.lt, ↓lC_lt]; done) | simp [keep, PV.lt, PE.lt, PC.lt, Box.lt, ↓lC_lt, ↓intC_lt, ↓ratC_lt, ↓u32s_lt]
            · have hb1 : ¬ 0 < c3 Q (dg (srt Q i) m) i := of_decide_eq_false hb9; refine pwp_exit ?_; refine e_then ?_; refine e_then ?_; refine e_here ?_; refine n_then ?_; refine pwx_draw Tryz.mixed 3 [] (by rfl) [] (by kernel_rfl) (by simp) fun _ K60 => ?_; refine rgnX_take 9 fun _ K61 => ?_; simp (disch := omega) only [go_sem, flat3_im, flat3_nm, ints_im, ints_length, List.length_take, List.length_drop, ints_splice, spl1, spl_nil, ints_nil, le_F, le_T, List.length_cons, List.length_nil, cutN_hi, cutN_lo, cutM_hi, cutM_end, cutM_le, cutM_lo, Nat.sub_zero, Nat.mul_one, List.length_nil, Nat.add_zero, ints_one, repC_i64, ints_take, ints_drop, ints_append]; intro c hc1; refine K61 _ ?_; refine rgnX_take 1 fun _ K62 => ?_; simp (disch := omega) only [go_sem, flat3_im, flat3_nm, ints_im, ints_length, List.length_take, List.length_drop, ints_splice, spl1, spl_nil, ints_nil, le_F, le_T, List.length_cons, List.length_nil, cutN_hi, cutN_lo, cutM_hi, cutM_end, cutM_le, cutM_lo, Nat.sub_zero, Nat.mul_one, List.length_nil, Nat.add_zero, ints_one, repC_i64, ints_take, ints_drop, ints_append]; refine K62 _ ?_; simp (disch := omega) only [go_sem, flat3_im, flat3_nm, ints_im, ints_length, List.length_take, List.length_drop, ints_splice, spl1, spl_nil, ints_nil, le_F, le_T, List.length_cons, List.length_nil, cutN_hi, cutN_lo, cutM_hi, cutM_end, cutM_le, cutM_lo, Nat.sub_zero, Nat.mul_one, List.length_nil, Nat.add_zero, ints_one, repC_i64, ints_take, ints_drop, ints_append]; refine K60 _ ?_; clear K62 K61 K60; refine n_block ?_; refine n_then ?_; skip; refine pwx_region 0 [] (by rfl) fun _ K63 => ?_; simp (disch := omega) only [go_sem, flat3_im, flat3_nm, ints_im, ints_length]; refine K63 _ ?_; clear K63; refine n_then ?_; refine ⟨_, ?hdec, ⟨i + 1, ?w15_1, ?w15_2, ?hf0, ?hf1, rfl, ?heq⟩, ?hok⟩
              case heq => first | rfl | simp [St.cut, keep]
              case hf0 => omega
              case hf1 => (exact GrowS.fin (hK.trans (insK_stop hb1)) (by omega) (J.drop 1) (finD hsl (by omega) (by omega)) (by simp; omega))
              case hdec => omega
              case hok => refine ⟨rfl, ?_, ?_⟩ <;> first | rfl | (simp [keep, PV.lt, PE.lt, PC.lt, Box.lt, ↓lC_lt]; done) | simp [keep, PV.lt, PE.lt, PC.lt, Box.lt, ↓lC_lt, ↓intC_lt, ↓ratC_lt, ↓u32s_lt]
      · refine pwx_sr 0 [] (by rfl) fun _ K64 => ?_; simp (disch := omega) only [go_sem, flat3_im, flat3_nm, ints_im, ints_length]; refine K64 _ ?_; clear K64; refine pwp_seq ?_; refine pwp_block ?_; refine pwp_loopF (true :: false :: false :: true :: true :: true :: false :: false :: false :: false :: false :: false :: false :: false :: false :: false :: false :: false :: false :: false :: false :: false :: false :: false :: false :: false :: false :: false :: false :: false :: false :: false :: false :: false :: false :: false :: false :: false :: false :: false :: false :: false :: false :: false :: false :: []) 1 (fun M s => ∃ k : Nat, ∃ v3 : PC, ∃ σ : List Box, (k ≤ i) ∧ (insK Q i (srt Q i) i = insK Q i (srt Q i) k) ∧ (GrowS (srt Q i) i v3 σ) ∧ k = M ∧ s = { slots := .e (.c (.sl Q.length (flat3 Q))) :: .j :: .j :: .e (.c (v3)) :: .e (.c (.int .i64 (i : Int))) :: .e (.c (.int .i64 (k : Int))) :: .j :: .j :: .j :: .j :: .j :: .j :: .j :: .j :: .j :: .j :: .j :: .j :: .j :: .j :: .j :: .j :: .j :: .j :: .j :: .j :: .j :: .j :: .j :: .j :: .j :: .j :: .j :: .j :: .j :: .j :: .j :: .j :: .j :: .j :: .j :: .j :: .j :: .j :: .j :: [], st := σ }) (n := i) rfl ?_ ?_ ?_
        · refine ⟨i, .msl 0 0 i (i + J.length) 1, [.live (ints (srt Q i ++ J))], ?_, ?_, ?_, rfl, ?_⟩
          · omega
          · rfl
          · exact .inr ⟨J, rfl, rfl⟩
          · first | rfl | simp [St.cut, keep]
        · refine ⟨rfl, ?_, ?_⟩ <;> first | rfl | (simp [keep, PV.lt, PE.lt, PC.lt, Box.lt, ↓lC_lt]; done) | simp [keep, PV.lt, PE.lt, PC.lt, Box.lt, ↓lC_lt, ↓intC_lt, ↓ratC_lt, ↓u32s_lt]
        · rintro _ _ ⟨k, v3, σ, hk, hK, hG, rfl, rfl⟩
          try clear hi0
          refine pwp_seq ?_
          rcases hG.cases hk with ⟨rfl, hi0, rfl, rfl⟩ | ⟨J, rfl, rfl, ⟨rfl, ⟨hin, rfl | hJ⟩ | ⟨hin, rfl | hJ⟩⟩ | ⟨m, rfl, ⟨hin, rfl | hJ⟩ | ⟨hin, rfl | hJ⟩⟩⟩
          · refine pwx_sd Tryz.mixed 0 [some 14, some 15, some 16, some 17, some 18, some 19, some 20, some 21, some 22, some 23, some 24, some 25, some 26, some 27, some 28, some 29, some 30, some 31] (by rfl) [] (by kernel_rfl) (by simp) fun _ K65 => ?_; refine rgnX_take 16 fun _ K66 => ?_; simp (disch := omega) only [go_sem, flat3_im, flat3_nm, ints_im, ints_length, ilt_F]
            first | refine ⟨_, c_swarfref05_Cmp _ _ _ _ _ _ (by omega), ?_⟩ | skip
            refine K66 _ ?_; simp (disch := omega) only [go_sem, flat3_im, flat3_nm, ints_im, ints_length, ilt_F]; refine K65 _ ?_; clear K66 K65; refine pwp_cond (b := false) (by rfl) (fun h => nomatch h) (fun _ => ?_); refine pwp_exit ?_; refine e_then ?_; refine e_then ?_; refine e_here ?_; refine n_then ?_; refine pwx_draw Tryz.mixed 3 [] (by rfl) [] (by kernel_rfl) (by simp) fun _ K67 => ?_; refine rgnX_take 9 fun _ K68 => ?_; simp (disch := omega) only [go_sem, flat3_im, flat3_nm, ints_im, ints_length, List.length_take, List.length_drop, ints_splice, spl1, spl_nil, ints_nil, le_F, le_T, List.length_cons, List.length_nil, cutN_hi, cutN_lo, cutM_hi, cutM_end, cutM_le, cutM_lo, Nat.sub_zero, Nat.mul_one, List.length_nil, Nat.add_zero, ints_one, repC_i64, ints_take, ints_drop, ints_append]; refine K68 _ ?_; refine rgnX_take 1 fun _ K69 => ?_; simp (disch := omega) only [go_sem, flat3_im, flat3_nm, ints_im, ints_length, List.length_take, List.length_drop, ints_splice, spl1, spl_nil, ints_nil, le_F, le_T, List.length_cons, List.length_nil, cutN_hi, cutN_lo, cutM_hi, cutM_end, cutM_le, cutM_lo, Nat.sub_zero, Nat.mul_one, List.length_nil, Nat.add_zero, ints_one, repC_i64, ints_take, ints_drop, ints_append]; intro c2 hc2; refine K69 _ ?_; simp (disch := omega) only [go_sem, flat3_im, flat3_nm, ints_im, ints_length, List.length_take, List.length_drop, ints_splice, spl1, spl_nil, ints_nil, le_F, le_T, List.length_cons, List.length_nil, cutN_hi, cutN_lo, cutM_hi, cutM_end, cutM_le, cutM_lo, Nat.sub_zero, Nat.mul_one, List.length_nil, Nat.add_zero, ints_one, repC_i64, ints_take, ints_drop, ints_append]; refine K67 _ ?_; clear K69 K68 K67; refine n_block ?_; refine n_then ?_; refine pwp_swap 0 2 rfl (by simp) (by simp) ?_; simp only [St.swap, swapL, sw, PV.ren, PE.ren, PC.ren, Box.ren, ints_ren, List.getD_cons_zero, List.getD_cons_succ, List.set_cons_zero, List.set_cons_succ, List.map_cons, List.map_nil, reduceIte, Nat.reduceEqDiff, Nat.zero_ne_one, Nat.one_ne_zero, go_sem_proc]; refine pwx_region 0 [] (by rfl) fun _ K70 => ?_; simp (disch := omega) only [go_sem, flat3_im, flat3_nm, ints_im, ints_length]; refine K70 _ ?_; clear K70; refine n_then ?_; refine ⟨_, ?hdec, ⟨i + 1, ?w17_1, ?w17_2, ?hf0, ?hf1, rfl, ?heq⟩, ?hok⟩
            case heq => first | rfl | simp [St.cut, keep]
            case hf0 => omega
            case hf1 => (subst hi0; exact GrowS.at (List.replicate (c2 - 1) 0) rfl (by simp; omega))
            case hdec => omega
            case hok => refine ⟨rfl, ?_, ?_⟩ <;> first | rfl | (simp [keep, PV.lt, PE.lt, PC.lt, Box.lt, ↓lC_lt]; done) | simp [keep, PV.lt, PE.lt, PC.lt, Box.lt, ↓lC_lt, ↓intC_lt, ↓ratC_lt, ↓u32s_lt]
          · refine pwx_sd Tryz.mixed 0 [some 14, some 15, some 16, some 17, some 18, some 19, some 20, some 21, some 22, some 23, some 24, some 25, some 26, some 27, some 28, some 29, some 30, some 31] (by rfl) [] (by kernel_rfl) (by simp) fun _ K71 => ?_; refine rgnX_take 16 fun _ K72 => ?_; simp (disch := omega) only [go_sem, flat3_im, flat3_nm, ints_im, ints_length, ilt_F]
            first | refine ⟨_, c_swarfref05_Cmp _ _ _ _ _ _ (by omega), ?_⟩ | skip
            refine K72 _ ?_; simp (disch := omega) only [go_sem, flat3_im, flat3_nm, ints_im, ints_length, ilt_F]; refine K71 _ ?_; clear K72 K71; refine pwp_cond (b := false) (by rfl) (fun h => nomatch h) (fun _ => ?_); refine pwp_exit ?_; refine e_then ?_; refine e_then ?_; refine e_here ?_; refine n_then ?_; refine pwx_draw Tryz.mixed 3 [] (by rfl) [] (by kernel_rfl) (by simp) fun _ K73 => ?_; refine rgnX_take 9 fun _ K74 => ?_; simp (disch := omega) only [go_sem, flat3_im, flat3_nm, ints_im, ints_length, List.length_take, List.length_drop, ints_splice, spl1, spl_nil, ints_nil, le_F, le_T, List.length_cons, List.length_nil, cutN_hi, cutN_lo, cutM_hi, cutM_end, cutM_le, cutM_lo, Nat.sub_zero, Nat.mul_one, List.length_nil, Nat.add_zero, ints_one, repC_i64, ints_take, ints_drop, ints_append]; refine K74 _ ?_; refine rgnX_take 1 fun _ K75 => ?_; simp (disch := omega) only [go_sem, flat3_im, flat3_nm, ints_im, ints_length, List.length_take, List.length_drop, ints_splice, spl1, spl_nil, ints_nil, le_F, le_T, List.length_cons, List.length_nil, cutN_hi, cutN_lo, cutM_hi, cutM_end, cutM_le, cutM_lo, Nat.sub_zero, Nat.mul_one, List.length_nil, Nat.add_zero, ints_one, repC_i64, ints_take, ints_drop, ints_append]; intro c2 hc2; refine K75 _ ?_; simp (disch := omega) only [go_sem, flat3_im, flat3_nm, ints_im, ints_length, List.length_take, List.length_drop, ints_splice, spl1, spl_nil, ints_nil, le_F, le_T, List.length_cons, List.length_nil, cutN_hi, cutN_lo, cutM_hi, cutM_end, cutM_le, cutM_lo, Nat.sub_zero, Nat.mul_one, List.length_nil, Nat.add_zero, ints_one, repC_i64, ints_take, ints_drop, ints_append]; refine K73 _ ?_; clear K75 K74 K73; refine n_block ?_; refine n_then ?_; refine pwp_swap 0 3 rfl (by simp) (by simp) ?_; simp only [St.swap, swapL, sw, PV.ren, PE.ren, PC.ren, Box.ren, ints_ren, List.getD_cons_zero, List.getD_cons_succ, List.set_cons_zero, List.set_cons_succ, List.map_cons, List.map_nil, reduceIte, Nat.reduceEqDiff, Nat.zero_ne_one, Nat.one_ne_zero, go_sem_proc]; refine pwx_region 0 [] (by rfl) fun _ K76 => ?_; simp (disch := omega) only [go_sem, flat3_im, flat3_nm, ints_im, ints_length]; refine K76 _ ?_; clear K76; refine n_then ?_; refine ⟨_, ?hdec, ⟨i + 1, ?w18_1, ?w18_2, ?hf0, ?hf1, rfl, ?heq⟩, ?hok⟩
            case heq => first | rfl | simp [St.cut, keep]
            case hf0 => omega
            case hf1 => (exact GrowS.fin (k := 0) hK (by omega) (List.replicate (c2 - 1) 0) (by rw [List.eq_nil_of_length_eq_zero (hsl.trans hin)]; rfl) (by simp; omega))
            case hdec => omega
            case hok => refine ⟨rfl, ?_, ?_⟩ <;> first | rfl | (simp [keep, PV.lt, PE.lt, PC.lt, Box.lt, ↓lC_lt]; done) | simp [keep, PV.lt, PE.lt, PC.lt, Box.lt, ↓lC_lt, ↓intC_lt, ↓ratC_lt, ↓u32s_lt]
          · refine pwx_sd Tryz.mixed 0 [some 14, some 15, some 16, some 17, some 18, some 19, some 20, some 21, some 22, some 23, some 24, some 25, some 26, some 27, some 28, some 29, some 30, some 31] (by rfl) [] (by kernel_rfl) (by simp) fun _ K77 => ?_; refine rgnX_take 16 fun _ K78 => ?_; simp (disch := omega) only [go_sem, flat3_im, flat3_nm, ints_im, ints_length, ilt_F]
            first | refine ⟨_, c_swarfref05_Cmp _ _ _ _ _ _ (by omega), ?_⟩ | skip
            refine K78 _ ?_; simp (disch := omega) only [go_sem, flat3_im, flat3_nm, ints_im, ints_length, ilt_F]; refine K77 _ ?_; clear K78 K77; refine pwp_cond (b := false) (by rfl) (fun h => nomatch h) (fun _ => ?_); refine pwp_exit ?_; refine e_then ?_; refine e_then ?_; refine e_here ?_; refine n_then ?_; refine pwx_draw Tryz.mixed 3 [] (by rfl) [] (by kernel_rfl) (by simp) fun _ K79 => ?_; refine rgnX_take 9 fun _ K80 => ?_; simp (disch := omega) only [go_sem, flat3_im, flat3_nm, ints_im, ints_length, List.length_take, List.length_drop, ints_splice, spl1, spl_nil, ints_nil, le_F, le_T, List.length_cons, List.length_nil, cutN_hi, cutN_lo, cutM_hi, cutM_end, cutM_le, cutM_lo, Nat.sub_zero, Nat.mul_one, List.length_nil, Nat.add_zero, ints_one, repC_i64, ints_take, ints_drop, ints_append]; refine K80 _ ?_; refine rgnX_take 1 fun _ K81 => ?_; simp (disch := omega) only [go_sem, flat3_im, flat3_nm, ints_im, ints_length, List.length_take, List.length_drop, ints_splice, spl1, spl_nil, ints_nil, le_F, le_T, List.length_cons, List.length_nil, cutN_hi, cutN_lo, cutM_hi, cutM_end, cutM_le, cutM_lo, Nat.sub_zero, Nat.mul_one, List.length_nil, Nat.add_zero, ints_one, repC_i64, ints_take, ints_drop, ints_append]; refine K81 _ ?_; simp (disch := omega) only [go_sem, flat3_im, flat3_nm, ints_im, ints_length, List.length_take, List.length_drop, ints_splice, spl1, spl_nil, ints_nil, le_F, le_T, List.length_cons, List.length_nil, cutN_hi, cutN_lo, cutM_hi, cutM_end, cutM_le, cutM_lo, Nat.sub_zero, Nat.mul_one, List.length_nil, Nat.add_zero, ints_one, repC_i64, ints_take, ints_drop, ints_append]; refine K79 _ ?_; clear K81 K80 K79; refine n_block ?_; refine n_then ?_; skip; refine pwx_region 0 [] (by rfl) fun _ K82 => ?_; simp (disch := omega) only [go_sem, flat3_im, flat3_nm, ints_im, ints_length]; refine K82 _ ?_; clear K82; refine n_then ?_; refine ⟨_, ?hdec, ⟨i + 1, ?w19_1, ?w19_2, ?hf0, ?hf1, rfl, ?heq⟩, ?hok⟩
            case heq => first | rfl | simp [St.cut, keep]
            case hf0 => omega
            case hf1 => (exact GrowS.fin (k := 0) hK (by omega) (J.drop 1) (by rw [List.eq_nil_of_length_eq_zero (hsl.trans hin)]; rfl) (by simp; omega))
            case hdec => omega
            case hok => refine ⟨rfl, ?_, ?_⟩ <;> first | rfl | (simp [keep, PV.lt, PE.lt, PC.lt, Box.lt, ↓lC_lt]; done) | simp [keep, PV.lt, PE.lt, PC.lt, Box.lt, ↓lC_lt, ↓intC_lt, ↓ratC_lt, ↓u32s_lt]
          · refine pwx_sd Tryz.mixed 0 [some 14, some 15, some 16, some 17, some 18, some 19, some 20, some 21, some 22, some 23, some 24, some 25, some 26, some 27, some 28, some 29, some 30, some 31] (by rfl) [] (by kernel_rfl) (by simp) fun _ K83 => ?_; refine rgnX_take 16 fun _ K84 => ?_; simp (disch := omega) only [go_sem, flat3_im, flat3_nm, ints_im, ints_length, ilt_F]
            first | refine ⟨_, c_swarfref05_Cmp _ _ _ _ _ _ (by omega), ?_⟩ | skip
            refine K84 _ ?_; simp (disch := omega) only [go_sem, flat3_im, flat3_nm, ints_im, ints_length, ilt_F]; refine K83 _ ?_; clear K84 K83; refine pwp_cond (b := false) (by rfl) (fun h => nomatch h) (fun _ => ?_); refine pwp_exit ?_; refine e_then ?_; refine e_then ?_; refine e_here ?_; refine n_then ?_; refine pwx_draw Tryz.mixed 3 [] (by rfl) [] (by kernel_rfl) (by simp) fun _ K85 => ?_; refine rgnX_take 9 fun _ K86 => ?_; simp (disch := omega) only [go_sem, flat3_im, flat3_nm, ints_im, ints_length, List.length_take, List.length_drop, ints_splice, spl1, spl_nil, ints_nil, le_F, le_T, List.length_cons, List.length_nil, cutN_hi, cutN_lo, cutM_hi, cutM_end, cutM_le, cutM_lo, Nat.sub_zero, Nat.mul_one, List.length_nil, Nat.add_zero, ints_one, repC_i64, ints_take, ints_drop, ints_append]; intro c hc1; refine K86 _ ?_; refine rgnX_take 1 fun _ K87 => ?_; simp (disch := omega) only [go_sem, flat3_im, flat3_nm, ints_im, ints_length, List.length_take, List.length_drop, ints_splice, spl1, spl_nil, ints_nil, le_F, le_T, List.length_cons, List.length_nil, cutN_hi, cutN_lo, cutM_hi, cutM_end, cutM_le, cutM_lo, Nat.sub_zero, Nat.mul_one, List.length_nil, Nat.add_zero, ints_one, repC_i64, ints_take, ints_drop, ints_append]; intro c2 hc2; refine K87 _ ?_; simp (disch := omega) only [go_sem, flat3_im, flat3_nm, ints_im, ints_length, List.length_take, List.length_drop, ints_splice, spl1, spl_nil, ints_nil, le_F, le_T, List.length_cons, List.length_nil, cutN_hi, cutN_lo, cutM_hi, cutM_end, cutM_le, cutM_lo, Nat.sub_zero, Nat.mul_one, List.length_nil, Nat.add_zero, ints_one, repC_i64, ints_take, ints_drop, ints_append]; refine K85 _ ?_; clear K87 K86 K85; refine n_block ?_; refine n_then ?_; refine pwp_swap 0 3 rfl (by simp) (by simp) ?_; simp only [St.swap, swapL, sw, PV.ren, PE.ren, PC.ren, Box.ren, ints_ren, List.getD_cons_zero, List.getD_cons_succ, List.set_cons_zero, List.set_cons_succ, List.map_cons, List.map_nil, reduceIte, Nat.reduceEqDiff, Nat.zero_ne_one, Nat.one_ne_zero, go_sem_proc]; refine pwx_region 0 [] (by rfl) fun _ K88 => ?_; simp (disch := omega) only [go_sem, flat3_im, flat3_nm, ints_im, ints_length]; refine K88 _ ?_; clear K88; refine n_then ?_; refine ⟨_, ?hdec, ⟨i + 1, ?w20_1, ?w20_2, ?hf0, ?hf1, rfl, ?heq⟩, ?hok⟩
            case heq => first | rfl | simp [St.cut, keep]
            case hf0 => omega
            case hf1 => (exact GrowS.fin (k := 0) hK (by omega) (List.replicate (c2 - (1 + i)) 0) (finC (S := srt Q i) (i := i) (k := 0) (c := c - (1 + i)) (R := List.replicate (c2 - (1 + i)) 0) hsl (Nat.zero_le _)) (by simp; omega))
            case hdec => omega
            case hok => refine ⟨rfl, ?_, ?_⟩ <;> first | rfl | (simp [keep, PV.lt, PE.lt, PC.lt, Box.lt, ↓lC_lt]; done) | simp [keep, PV.lt, PE.lt, PC.lt, Box.lt, ↓lC_lt, ↓intC_lt, ↓ratC_lt, ↓u32s_lt]
          · refine pwx_sd Tryz.mixed 0 [some 14, some 15, some 16, some 17, some 18, some 19, some 20, some 21, some 22, some 23, some 24, some 25, some 26, some 27, some 28, some 29, some 30, some 31] (by rfl) [] (by kernel_rfl) (by simp) fun _ K89 => ?_; refine rgnX_take 16 fun _ K90 => ?_; simp (disch := omega) only [go_sem, flat3_im, flat3_nm, ints_im, ints_length, ilt_F]
            first | refine ⟨_, c_swarfref05_Cmp _ _ _ _ _ _ (by omega), ?_⟩ | skip
            refine K90 _ ?_; simp (disch := omega) only [go_sem, flat3_im, flat3_nm, ints_im, ints_length, ilt_F]; refine K89 _ ?_; clear K90 K89; refine pwp_cond (b := false) (by rfl) (fun h => nomatch h) (fun _ => ?_); refine pwp_exit ?_; refine e_then ?_; refine e_then ?_; refine e_here ?_; refine n_then ?_; refine pwx_draw Tryz.mixed 3 [] (by rfl) [] (by kernel_rfl) (by simp) fun _ K91 => ?_; refine rgnX_take 9 fun _ K92 => ?_; simp (disch := omega) only [go_sem, flat3_im, flat3_nm, ints_im, ints_length, List.length_take, List.length_drop, ints_splice, spl1, spl_nil, ints_nil, le_F, le_T, List.length_cons, List.length_nil, cutN_hi, cutN_lo, cutM_hi, cutM_end, cutM_le, cutM_lo, Nat.sub_zero, Nat.mul_one, List.length_nil, Nat.add_zero, ints_one, repC_i64, ints_take, ints_drop, ints_append]; intro c hc1; refine K92 _ ?_; refine rgnX_take 1 fun _ K93 => ?_; simp (disch := omega) only [go_sem, flat3_im, flat3_nm, ints_im, ints_length, List.length_take, List.length_drop, ints_splice, spl1, spl_nil, ints_nil, le_F, le_T, List.length_cons, List.length_nil, cutN_hi, cutN_lo, cutM_hi, cutM_end, cutM_le, cutM_lo, Nat.sub_zero, Nat.mul_one, List.length_nil, Nat.add_zero, ints_one, repC_i64, ints_take, ints_drop, ints_append]; refine K93 _ ?_; simp (disch := omega) only [go_sem, flat3_im, flat3_nm, ints_im, ints_length, List.length_take, List.length_drop, ints_splice, spl1, spl_nil, ints_nil, le_F, le_T, List.length_cons, List.length_nil, cutN_hi, cutN_lo, cutM_hi, cutM_end, cutM_le, cutM_lo, Nat.sub_zero, Nat.mul_one, List.length_nil, Nat.add_zero, ints_one, repC_i64, ints_take, ints_drop, ints_append]; refine K91 _ ?_; clear K93 K92 K91; refine n_block ?_; refine n_then ?_; skip; refine pwx_region 0 [] (by rfl) fun _ K94 => ?_; simp (disch := omega) only [go_sem, flat3_im, flat3_nm, ints_im, ints_length]; refine K94 _ ?_; clear K94; refine n_then ?_; refine ⟨_, ?hdec, ⟨i + 1, ?w21_1, ?w21_2, ?hf0, ?hf1, rfl, ?heq⟩, ?hok⟩
            case heq => first | rfl | simp [St.cut, keep]
            case hf0 => omega
            case hf1 => (exact GrowS.fin (k := 0) hK (by omega) (J.drop 1) (finD (S := srt Q i) (J := J) (i := i) (k := 0) (c := c - (1 + i)) hsl (Nat.zero_le _) (by omega)) (by simp; omega))
            case hdec => omega
            case hok => refine ⟨rfl, ?_, ?_⟩ <;> first | rfl | (simp [keep, PV.lt, PE.lt, PC.lt, Box.lt, ↓lC_lt]; done) | simp [keep, PV.lt, PE.lt, PC.lt, Box.lt, ↓lC_lt, ↓intC_lt, ↓ratC_lt, ↓u32s_lt]
          · have hil : m < i := by omega
            have hxl : (dg (srt Q i) m) < Q.length := Nat.lt_trans (srt_getD Q (by omega)) (by omega)
            have hql : i < Q.length := by omega
            obtain ⟨ix1, ix2, ix3, cx⟩ := hQ _ (List.mem_of_getElem? (get3 hxl)); obtain ⟨iy1, iy2, iy3, cy⟩ := hQ _ (List.mem_of_getElem? (get3 hql)); have h1 := @idx3 Q (dg (srt Q i) m) Q.length hxl rfl; have h2 := @idx3 Q i Q.length hql rfl; refine pwx_sd Tryz.mixed 0 [some 14, some 15, some 16, some 17, some 18, some 19, some 20, some 21, some 22, some 23, some 24, some 25, some 26, some 27, some 28, some 29, some 30, some 31] (by rfl) [] (by kernel_rfl) (by simp) fun _ K95 => ?_; refine rgnX_take 16 fun _ K96 => ?_; simp (disch := omega) only [go_sem, flat3_im, flat3_nm, ints_im, ints_length, ilt_T, ints_get, h1, h2]
            first | refine ⟨_, c_swarfref05_Cmp _ _ _ _ _ _ (by omega), ?_⟩ | skip
            refine K96 _ ?_; simp (disch := omega) only [go_sem, flat3_im, flat3_nm, ints_im, ints_length, ilt_T, ints_get, h1, h2]; refine K95 _ ?_; clear K96 K95; refine pwp_cond (b := _) (by rfl) (fun hb15 => ?_) (fun hb15 => ?_)
            · have hb1 : 0 < c3 Q (dg (srt Q i) m) i := of_decide_eq_true hb15; refine pwp_skip ?_; refine n_then ?_; refine pwp_block ?_; refine pwx_region 0 [] (by rfl) fun _ K97 => ?_; simp (disch := omega) only [go_sem, flat3_im, flat3_nm, ints_im, ints_length]; refine K97 _ ?_; clear K97; refine n_block ?_; refine n_then ?_; refine ⟨_, ?hdec, ⟨m, ?w22_1, ?w22_2, ?hf0, ?hf1, ?hf2, rfl, ?heq⟩, ?hok⟩
              case heq => first | rfl | simp [St.cut, keep]
              case hf0 => omega
              case hf1 => rw [hK]; exact insK_step hb1
              case hf2 => first | exact .inr ⟨J, rfl, rfl⟩ | exact .inr ⟨[], rfl, by rw [List.append_nil]; rfl⟩
              case hdec => omega
              case hok => refine ⟨rfl, ?_, ?_⟩ <;> first | rfl | (simp [keep, PV.lt, PE.lt, PC.lt, Box.lt, ↓lC_lt]; done) | simp [keep, PV.lt, PE.lt, PC.lt, Box.lt, ↓lC_lt, ↓intC_lt, ↓ratC_lt, ↓u32s_lt]
            · have hb1 : ¬ 0 < c3 Q (dg (srt Q i) m) i := of_decide_eq_false hb15; refine pwp_exit ?_; refine e_then ?_; refine e_then ?_; refine e_here ?_; refine n_then ?_; refine pwx_draw Tryz.mixed 3 [] (by rfl) [] (by kernel_rfl) (by simp) fun _ K98 => ?_; refine rgnX_take 9 fun _ K99 => ?_; simp (disch := omega) only [go_sem, flat3_im, flat3_nm, ints_im, ints_length, List.length_take, List.length_drop, ints_splice, spl1, spl_nil, ints_nil, le_F, le_T, List.length_cons, List.length_nil, cutN_hi, cutN_lo, cutM_hi, cutM_end, cutM_le, cutM_lo, Nat.sub_zero, Nat.mul_one, List.length_nil, Nat.add_zero, ints_one, repC_i64, ints_take, ints_drop, ints_append]; refine K99 _ ?_; refine rgnX_take 1 fun _ K100 => ?_; simp (disch := omega) only [go_sem, flat3_im, flat3_nm, ints_im, ints_length, List.length_take, List.length_drop, ints_splice, spl1, spl_nil, ints_nil, le_F, le_T, List.length_cons, List.length_nil, cutN_hi, cutN_lo, cutM_hi, cutM_end, cutM_le, cutM_lo, Nat.sub_zero, Nat.mul_one, List.length_nil, Nat.add_zero, ints_one, repC_i64, ints_take, ints_drop, ints_append]; intro c2 hc2; refine K100 _ ?_; simp (disch := omega) only [go_sem, flat3_im, flat3_nm, ints_im, ints_length, List.length_take, List.length_drop, ints_splice, spl1, spl_nil, ints_nil, le_F, le_T, List.length_cons, List.length_nil, cutN_hi, cutN_lo, cutM_hi, cutM_end, cutM_le, cutM_lo, Nat.sub_zero, Nat.mul_one, List.length_nil, Nat.add_zero, ints_one, repC_i64, ints_take, ints_drop, ints_append]; refine K98 _ ?_; clear K100 K99 K98; refine n_block ?_; refine n_then ?_; refine pwp_swap 0 3 rfl (by simp) (by simp) ?_; simp only [St.swap, swapL, sw, PV.ren, PE.ren, PC.ren, Box.ren, ints_ren, List.getD_cons_zero, List.getD_cons_succ, List.set_cons_zero, List.set_cons_succ, List.map_cons, List.map_nil, reduceIte, Nat.reduceEqDiff, Nat.zero_ne_one, Nat.one_ne_zero, go_sem_proc]; refine pwx_region 0 [] (by rfl) fun _ K101 => ?_; simp (disch := omega) only [go_sem, flat3_im, flat3_nm, ints_im, ints_length]; refine K101 _ ?_; clear K101; refine n_then ?_; refine ⟨_, ?hdec, ⟨i + 1, ?w23_1, ?w23_2, ?hf0, ?hf1, rfl, ?heq⟩, ?hok⟩
              case heq => first | rfl | simp [St.cut, keep]
              case hf0 => omega
              case hf1 => (exact GrowS.fin (hK.trans (insK_stop hb1)) (by omega) (List.replicate (c2 - (m + 1 + 1)) 0) (finA (hsl.trans hin)) (by simp; omega))
              case hdec => omega
              case hok => refine ⟨rfl, ?_, ?_⟩ <;> first | rfl | (simp [keep, PV.lt, PE.lt, PC.lt, Box.lt, ↓lC_lt]; done) | simp [keep, PV.lt, PE.lt, PC.lt, Box.lt, ↓lC_lt, ↓intC_lt, ↓ratC_lt, ↓u32s_lt]
          · have hil : m < i := by omega
            have hxl : (dg (srt Q i) m) < Q.length := Nat.lt_trans (srt_getD Q (by omega)) (by omega)
            have hql : i < Q.length := by omega
            obtain ⟨ix1, ix2, ix3, cx⟩ := hQ _ (List.mem_of_getElem? (get3 hxl)); obtain ⟨iy1, iy2, iy3, cy⟩ := hQ _ (List.mem_of_getElem? (get3 hql)); have h1 := @idx3 Q (dg (srt Q i) m) Q.length hxl rfl; have h2 := @idx3 Q i Q.length hql rfl; have hx1 : (srt Q i ++ J).getD m 0 = dg (srt Q i) m := getD_app (by omega); have hx2 : dg (srt Q i ++ J) m = dg (srt Q i) m := hx1; refine pwx_sd Tryz.mixed 0 [some 14, some 15, some 16, some 17, some 18, some 19, some 20, some 21, some 22, some 23, some 24, some 25, some 26, some 27, some 28, some 29, some 30, some 31] (by rfl) [] (by kernel_rfl) (by simp) fun _ K102 => ?_; refine rgnX_take 16 fun _ K103 => ?_; simp (disch := omega) only [go_sem, flat3_im, flat3_nm, ints_im, ints_length, ilt_T, ints_get_app, h1, h2]
            first | refine ⟨_, c_swarfref05_Cmp _ _ _ _ _ _ (by omega), ?_⟩ | skip
            refine K103 _ ?_; simp (disch := omega) only [go_sem, flat3_im, flat3_nm, ints_im, ints_length, ilt_T, ints_get_app, h1, h2]; refine K102 _ ?_; clear K103 K102; refine pwp_cond (b := _) (by rfl) (fun hb16 => ?_) (fun hb16 => ?_)
            · have hb1 : 0 < c3 Q (dg (srt Q i) m) i := of_decide_eq_true hb16; refine pwp_skip ?_; refine n_then ?_; refine pwp_block ?_; refine pwx_region 0 [] (by rfl) fun _ K104 => ?_; simp (disch := omega) only [go_sem, flat3_im, flat3_nm, ints_im, ints_length]; refine K104 _ ?_; clear K104; refine n_block ?_; refine n_then ?_; refine ⟨_, ?hdec, ⟨m, ?w24_1, ?w24_2, ?hf0, ?hf1, ?hf2, rfl, ?heq⟩, ?hok⟩
              case heq => first | rfl | simp [St.cut, keep]
              case hf0 => omega
              case hf1 => rw [hK]; exact insK_step hb1
              case hf2 => first | exact .inr ⟨J, rfl, rfl⟩ | exact .inr ⟨[], rfl, by rw [List.append_nil]; rfl⟩
              case hdec => omega
              case hok => refine ⟨rfl, ?_, ?_⟩ <;> first | rfl | (simp [keep, PV.lt, PE.lt, PC.lt, Box.lt, ↓lC_lt]; done) | simp [keep, PV.lt, PE.lt, PC.lt, Box.lt, ↓lC_lt, ↓intC_lt, ↓ratC_lt, ↓u32s_lt]
            · have hb1 : ¬ 0 < c3 Q (dg (srt Q i) m) i := of_decide_eq_false hb16; refine pwp_exit ?_; refine e_then ?_; refine e_then ?_; refine e_here ?_; refine n_then ?_; refine pwx_draw Tryz.mixed 3 [] (by rfl) [] (by kernel_rfl) (by simp) fun _ K105 => ?_; refine rgnX_take 9 fun _ K106 => ?_; simp (disch := omega) only [go_sem, flat3_im, flat3_nm, ints_im, ints_length, List.length_take, List.length_drop, ints_splice, spl1, spl_nil, ints_nil, le_F, le_T, List.length_cons, List.length_nil, cutN_hi, cutN_lo, cutM_hi, cutM_end, cutM_le, cutM_lo, Nat.sub_zero, Nat.mul_one, List.length_nil, Nat.add_zero, ints_one, repC_i64, ints_take, ints_drop, ints_append]; refine K106 _ ?_; refine rgnX_take 1 fun _ K107 => ?_; simp (disch := omega) only [go_sem, flat3_im, flat3_nm, ints_im, ints_length, List.length_take, List.length_drop, ints_splice, spl1, spl_nil, ints_nil, le_F, le_T, List.length_cons, List.length_nil, cutN_hi, cutN_lo, cutM_hi, cutM_end, cutM_le, cutM_lo, Nat.sub_zero, Nat.mul_one, List.length_nil, Nat.add_zero, ints_one, repC_i64, ints_take, ints_drop, ints_append]; refine K107 _ ?_; simp (disch := omega) only [go_sem, flat3_im, flat3_nm, ints_im, ints_length, List.length_take, List.length_drop, ints_splice, spl1, spl_nil, ints_nil, le_F, le_T, List.length_cons, List.length_nil, cutN_hi, cutN_lo, cutM_hi, cutM_end, cutM_le, cutM_lo, Nat.sub_zero, Nat.mul_one, List.length_nil, Nat.add_zero, ints_one, repC_i64, ints_take, ints_drop, ints_append]; refine K105 _ ?_; clear K107 K106 K105; refine n_block ?_; refine n_then ?_; skip; refine pwx_region 0 [] (by rfl) fun _ K108 => ?_; simp (disch := omega) only [go_sem, flat3_im, flat3_nm, ints_im, ints_length]; refine K108 _ ?_; clear K108; refine n_then ?_; refine ⟨_, ?hdec, ⟨i + 1, ?w25_1, ?w25_2, ?hf0, ?hf1, rfl, ?heq⟩, ?hok⟩
              case heq => first | rfl | simp [St.cut, keep]
              case hf0 => omega
              case hf1 => (exact GrowS.fin (hK.trans (insK_stop hb1)) (by omega) (J.drop 1) (finB (hsl.trans hin)) (by simp; omega))
              case hdec => omega
              case hok => refine ⟨rfl, ?_, ?_⟩ <;> first | rfl | (simp [keep, PV.lt, PE.lt, PC.lt, Box.lt, ↓lC_lt]; done) | simp [keep, PV.lt, PE.lt, PC.lt, Box.lt, ↓lC_lt, ↓intC_lt, ↓ratC_lt, ↓u32s_lt]
          · have hil : m < i := by omega
            have hxl : (dg (srt Q i) m) < Q.length := Nat.lt_trans (srt_getD Q (by omega)) (by omega)
            have hql : i < Q.length := by omega
            obtain ⟨ix1, ix2, ix3, cx⟩ := hQ _ (List.mem_of_getElem? (get3 hxl)); obtain ⟨iy1, iy2, iy3, cy⟩ := hQ _ (List.mem_of_getElem? (get3 hql)); have h1 := @idx3 Q (dg (srt Q i) m) Q.length hxl rfl; have h2 := @idx3 Q i Q.length hql rfl; refine pwx_sd Tryz.mixed 0 [some 14, some 15, some 16, some 17, some 18, some 19, some 20, some 21, some 22, some 23, some 24, some 25, some 26, some 27, some 28, some 29, some 30, some 31] (by rfl) [] (by kernel_rfl) (by simp) fun _ K109 => ?_; refine rgnX_take 16 fun _ K110 => ?_; simp (disch := omega) only [go_sem, flat3_im, flat3_nm, ints_im, ints_length, ilt_T, ints_get, h1, h2]
            first | refine ⟨_, c_swarfref05_Cmp _ _ _ _ _ _ (by omega), ?_⟩ | skip
            refine K110 _ ?_; simp (disch := omega) only [go_sem, flat3_im, flat3_nm, ints_im, ints_length, ilt_T, ints_get, h1, h2]; refine K109 _ ?_; clear K110 K109; refine pwp_cond (b := _) (by rfl) (fun hb17 => ?_) (fun hb17 => ?_)
            · have hb1 : 0 < c3 Q (dg (srt Q i) m) i := of_decide_eq_true hb17; refine pwp_skip ?_; refine n_then ?_; refine pwp_block ?_; refine pwx_region 0 [] (by rfl) fun _ K111 => ?_; simp (disch := omega) only [go_sem, flat3_im, flat3_nm, ints_im, ints_length]; refine K111 _ ?_; clear K111; refine n_block ?_; refine n_then ?_; refine ⟨_, ?hdec, ⟨m, ?w26_1, ?w26_2, ?hf0, ?hf1, ?hf2, rfl, ?heq⟩, ?hok⟩
              case heq => first | rfl | simp [St.cut, keep]
              case hf0 => omega
              case hf1 => rw [hK]; exact insK_step hb1
              case hf2 => first | exact .inr ⟨J, rfl, rfl⟩ | exact .inr ⟨[], rfl, by rw [List.append_nil]; rfl⟩
              case hdec => omega
              case hok => refine ⟨rfl, ?_, ?_⟩ <;> first | rfl | (simp [keep, PV.lt, PE.lt, PC.lt, Box.lt, ↓lC_lt]; done) | simp [keep, PV.lt, PE.lt, PC.lt, Box.lt, ↓lC_lt, ↓intC_lt, ↓ratC_lt, ↓u32s_lt]
            · have hb1 : ¬ 0 < c3 Q (dg (srt Q i) m) i := of_decide_eq_false hb17; refine pwp_exit ?_; refine e_then ?_; refine e_then ?_; refine e_here ?_; refine n_then ?_; refine pwx_draw Tryz.mixed 3 [] (by rfl) [] (by kernel_rfl) (by simp) fun _ K112 => ?_; refine rgnX_take 9 fun _ K113 => ?_; simp (disch := omega) only [go_sem, flat3_im, flat3_nm, ints_im, ints_length, List.length_take, List.length_drop, ints_splice, spl1, spl_nil, ints_nil, le_F, le_T, List.length_cons, List.length_nil, cutN_hi, cutN_lo, cutM_hi, cutM_end, cutM_le, cutM_lo, Nat.sub_zero, Nat.mul_one, List.length_nil, Nat.add_zero, ints_one, repC_i64, ints_take, ints_drop, ints_append]; intro c hc1; refine K113 _ ?_; refine rgnX_take 1 fun _ K114 => ?_; simp (disch := omega) only [go_sem, flat3_im, flat3_nm, ints_im, ints_length, List.length_take, List.length_drop, ints_splice, spl1, spl_nil, ints_nil, le_F, le_T, List.length_cons, List.length_nil, cutN_hi, cutN_lo, cutM_hi, cutM_end, cutM_le, cutM_lo, Nat.sub_zero, Nat.mul_one, List.length_nil, Nat.add_zero, ints_one, repC_i64, ints_take, ints_drop, ints_append]; intro c2 hc2; refine K114 _ ?_; simp (disch := omega) only [go_sem, flat3_im, flat3_nm, ints_im, ints_length, List.length_take, List.length_drop, ints_splice, spl1, spl_nil, ints_nil, le_F, le_T, List.length_cons, List.length_nil, cutN_hi, cutN_lo, cutM_hi, cutM_end, cutM_le, cutM_lo, Nat.sub_zero, Nat.mul_one, List.length_nil, Nat.add_zero, ints_one, repC_i64, ints_take, ints_drop, ints_append]; refine K112 _ ?_; clear K114 K113 K112; refine n_block ?_; refine n_then ?_; refine pwp_swap 0 3 rfl (by simp) (by simp) ?_; simp only [St.swap, swapL, sw, PV.ren, PE.ren, PC.ren, Box.ren, ints_ren, List.getD_cons_zero, List.getD_cons_succ, List.set_cons_zero, List.set_cons_succ, List.map_cons, List.map_nil, reduceIte, Nat.reduceEqDiff, Nat.zero_ne_one, Nat.one_ne_zero, go_sem_proc]; refine pwx_region 0 [] (by rfl) fun _ K115 => ?_; simp (disch := omega) only [go_sem, flat3_im, flat3_nm, ints_im, ints_length]; refine K115 _ ?_; clear K115; refine n_then ?_; refine ⟨_, ?hdec, ⟨i + 1, ?w27_1, ?w27_2, ?hf0, ?hf1, rfl, ?heq⟩, ?hok⟩
              case heq => first | rfl | simp [St.cut, keep]
              case hf0 => omega
              case hf1 => (exact GrowS.fin (hK.trans (insK_stop hb1)) (by omega) (List.replicate (c2 - (m + 1 + (1 + (i - (m + 1))))) 0) (finC hsl (by omega)) (by simp; omega))
              case hdec => omega
              case hok => refine ⟨rfl, ?_, ?_⟩ <;> first | rfl | (simp [keep, PV.lt, PE.lt, PC.lt, Box.lt, ↓lC_lt]; done) | simp [keep, PV.lt, PE.lt, PC.lt, Box.lt, ↓lC_lt, ↓intC_lt, ↓ratC_lt, ↓u32s_lt]
          · have hil : m < i := by omega
            have hxl : (dg (srt Q i) m) < Q.length := Nat.lt_trans (srt_getD Q (by omega)) (by omega)
            have hql : i < Q.length := by omega
            obtain ⟨ix1, ix2, ix3, cx⟩ := hQ _ (List.mem_of_getElem? (get3 hxl)); obtain ⟨iy1, iy2, iy3, cy⟩ := hQ _ (List.mem_of_getElem? (get3 hql)); have h1 := @idx3 Q (dg (srt Q i) m) Q.length hxl rfl; have h2 := @idx3 Q i Q.length hql rfl; have hx1 : (srt Q i ++ J).getD m 0 = dg (srt Q i) m := getD_app (by omega); have hx2 : dg (srt Q i ++ J) m = dg (srt Q i) m := hx1; refine pwx_sd Tryz.mixed 0 [some 14, some 15, some 16, some 17, some 18, some 19, some 20, some 21, some 22, some 23, some 24, some 25, some 26, some 27, some 28, some 29, some 30, some 31] (by rfl) [] (by kernel_rfl) (by simp) fun _ K116 => ?_; refine rgnX_take 16 fun _ K117 => ?_; simp (disch := omega) only [go_sem, flat3_im, flat3_nm, ints_im, ints_length, ilt_T, ints_get_app, h1, h2]
            first | refine ⟨_, c_swarfref05_Cmp _ _ _ _ _ _ (by omega), ?_⟩ | skip
            refine K117 _ ?_; simp (disch := omega) only [go_sem, flat3_im, flat3_nm, ints_im, ints_length, ilt_T, ints_get_app, h1, h2]; refine K116 _ ?_; clear K117 K116; refine pwp_cond (b := _) (by rfl) (fun hb18 => ?_) (fun hb18 => ?_)
            · have hb1 : 0 < c3 Q (dg (srt Q i) m) i := of_decide_eq_true hb18; refine pwp_skip ?_; refine n_then ?_; refine pwp_block ?_; refine pwx_region 0 [] (by rfl) fun _ K118 => ?_; simp (disch := omega) only [go_sem, flat3_im, flat3_nm, ints_im, ints_length]; refine K118 _ ?_; clear K118; refine n_block ?_; refine n_then ?_; refine ⟨_, ?hdec, ⟨m, ?w28_1, ?w28_2, ?hf0, ?hf1, ?hf2, rfl, ?heq⟩, ?hok⟩
              case heq => first | rfl | simp [St.cut, keep]
              case hf0 => omega
              case hf1 => rw [hK]; exact insK_step hb1
              case hf2 => first | exact .inr ⟨J, rfl, rfl⟩ | exact .inr ⟨[], rfl, by rw [List.append_nil]; rfl⟩
              case hdec => omega
              case hok => refine ⟨rfl, ?_, ?_⟩ <;> first | rfl | (simp [keep, PV.lt, PE.lt, PC.lt, Box.lt, ↓lC_lt]; done) | simp [keep, PV.lt, PE.lt, PC.lt, Box.lt, ↓lC_lt, ↓intC_lt, ↓ratC_lt, ↓u32s_lt]
            · have hb1 : ¬ 0 < c3 Q (dg (srt Q i) m) i := of_decide_eq_false hb18; refine pwp_exit ?_; refine e_then ?_; refine e_then ?_; refine e_here ?_; refine n_then ?_; refine pwx_draw Tryz.mixed 3 [] (by rfl) [] (by kernel_rfl) (by simp) fun _ K119 => ?_; refine rgnX_take 9 fun _ K120 => ?_; simp (disch := omega) only [go_sem, flat3_im, flat3_nm, ints_im, ints_length, List.length_take, List.length_drop, ints_splice, spl1, spl_nil, ints_nil, le_F, le_T, List.length_cons, List.length_nil, cutN_hi, cutN_lo, cutM_hi, cutM_end, cutM_le, cutM_lo, Nat.sub_zero, Nat.mul_one, List.length_nil, Nat.add_zero, ints_one, repC_i64, ints_take, ints_drop, ints_append]; intro c hc1; refine K120 _ ?_; refine rgnX_take 1 fun _ K121 => ?_; simp (disch := omega) only [go_sem, flat3_im, flat3_nm, ints_im, ints_length, List.length_take, List.length_drop, ints_splice, spl1, spl_nil, ints_nil, le_F, le_T, List.length_cons, List.length_nil, cutN_hi, cutN_lo, cutM_hi, cutM_end, cutM_le, cutM_lo, Nat.sub_zero, Nat.mul_one, List.length_nil, Nat.add_zero, ints_one, repC_i64, ints_take, ints_drop, ints_append]; refine K121 _ ?_; simp (disch := omega) only [go_sem, flat3_im, flat3_nm, ints_im, ints_length, List.length_take, List.length_drop, ints_splice, spl1, spl_nil, ints_nil, le_F, le_T, List.length_cons, List.length_nil, cutN_hi, cutN_lo, cutM_hi, cutM_end, cutM_le, cutM_lo, Nat.sub_zero, Nat.mul_one, List.length_nil, Nat.add_zero, ints_one, repC_i64, ints_take, ints_drop, ints_append]; refine K119 _ ?_; clear K121 K120 K119; refine n_block ?_; refine n_then ?_; skip; refine pwx_region 0 [] (by rfl) fun _ K122 => ?_; simp (disch := omega) only [go_sem, flat3_im, flat3_nm, ints_im, ints_length]; refine K122 _ ?_; clear K122; refine n_then ?_; refine ⟨_, ?hdec, ⟨i + 1, ?w29_1, ?w29_2, ?hf0, ?hf1, rfl, ?heq⟩, ?hok⟩
              case heq => first | rfl | simp [St.cut, keep]
              case hf0 => omega
              case hf1 => (exact GrowS.fin (hK.trans (insK_stop hb1)) (by omega) (J.drop 1) (finD hsl (by omega) (by omega)) (by simp; omega))
              case hdec => omega
              case hok => refine ⟨rfl, ?_, ?_⟩ <;> first | rfl | (simp [keep, PV.lt, PE.lt, PC.lt, Box.lt, ↓lC_lt]; done) | simp [keep, PV.lt, PE.lt, PC.lt, Box.lt, ↓lC_lt, ↓intC_lt, ↓ratC_lt, ↓u32s_lt]
    · replace hb0 := of_decide_eq_false hb0
      obtain rfl : i = Q.length := by omega
      refine pwp_exit ?_; refine e_then ?_; refine e_then ?_; refine e_here ?_; refine n_then ?_
      rcases hG with ⟨rfl, hi0, rfl⟩ | ⟨J, rfl, rfl⟩
      · refine pwx_sr 0 [] (by rfl) fun _ K123 => ?_; simp (disch := omega) only [go_sem, flat3_im, flat3_nm, ints_im, ints_length]; refine K123 _ ?_; clear K123; refine pwp_ret ?_; refine ⟨Or.inr rfl, ?_⟩; simp (disch := omega) only [go_sem, flat3_im, flat3_nm, ints_im, ints_length]
        rw [hi0]; rfl
      · refine pwx_sr 0 [] (by rfl) fun _ K124 => ?_; simp (disch := omega) only [go_sem, flat3_im, flat3_nm, ints_im, ints_length]; refine K124 _ ?_; clear K124; refine pwp_ret ?_; refine ⟨Or.inr rfl, ?_⟩; simp (disch := omega) only [go_sem, flat3_im, flat3_nm, ints_im, ints_length]; rw [ints_take, List.take_left' hsl]

end Go.Proofs.YtdojhoegildiaaaGreat

set_option linter.unusedSimpArgs false
set_option linter.unusedVariables false
set_option maxRecDepth 20000
namespace Go.Proofs.YtdojhoegildiaaaGreat
open Go Go.PL Go.RL
set_option maxHeartbeats 4000000 in
theorem w_RadicalSort_b (E : List Raw6) (hl : 12 < E.length) :
    Ret Tryz.prog 9 [.c (.sl E.length (flat6 E))] (.e (.c (.bool true))) := by
  refine ret_of_body (md := {}) Tryz.func9 (by kernel_rfl) rfl ?_; simp only [Tryz.f9, go_sem, Nat.reduceAdd, Nat.reduceSub, List.reduceReplicate]; refine pwx_sr 0 [] (by rfl) fun _ K1 => ?_; simp (disch := omega) only [go_sem, flat3_im, flat3_nm, ints_im, ints_length, flat6_im]; refine K1 _ ?_; clear K1; refine pwp_seq ?_; refine pwx_sr 0 [some 8, some 9, some 10, some 11, some 12, some 13, some 14] (by rfl) fun _ K2 => ?_; refine rgnX_take 1 fun _ K3 => ?_; simp (disch := omega) only [go_sem, flat3_im, flat3_nm, ints_im, ints_length, flat6_im]; refine ⟨_, c_swarflaw05_awake, ?_⟩; refine K3 _ ?_; simp (disch := omega) only [go_sem, flat3_im, flat3_nm, ints_im, ints_length, flat6_im]; refine K2 _ ?_; clear K3 K2; refine pwp_cond (b := true) (by rfl) (fun _ => ?_) (fun h => nomatch h); refine pwx_sr 0 [] (by rfl) fun _ K4 => ?_; refine rgnX_take 1 fun _ K5 => ?_; simp (disch := omega) only [go_sem, flat3_im, flat3_nm, ints_im, ints_length, flat6_im]; refine ⟨_, c_swarflaw05_awake, ?_⟩; refine K5 _ ?_; simp (disch := omega) only [go_sem, flat3_im, flat3_nm, ints_im, ints_length, flat6_im]; refine K4 _ ?_; clear K5 K4; refine pwp_ret ?_; refine r_then ?_; refine ⟨Or.inr rfl, ?_⟩; simp (disch := omega) only [go_sem, flat3_im, flat3_nm, ints_im, ints_length, flat6_im]
set_option maxHeartbeats 4000000 in
theorem w_RadicalSort_x (E : List Raw6) (k : Nat) (hk : k < E.length) (hl : E.length ≤ 12) (h1 : ∀ j x, j < k → E[j]? = some x → Ret Tryz.prog 17 [.a x.c] (.e (.c (.bool true)))) (h2 : ∀ x, E[k]? = some x → Ret Tryz.prog 17 [.a x.c] (.e (.c (.bool false)))) :
    Ret Tryz.prog 9 [.c (.sl E.length (flat6 E))] (.e (.c (.bool true))) := by
  refine ret_of_body (md := {}) Tryz.func9 (by kernel_rfl) rfl ?_; simp only [Tryz.f9, go_sem, Nat.reduceAdd, Nat.reduceSub, List.reduceReplicate]; refine pwx_sr 0 [] (by rfl) fun _ K1 => ?_; simp (disch := omega) only [go_sem, flat3_im, flat3_nm, ints_im, ints_length, flat6_im]; refine K1 _ ?_; clear K1; refine pwp_seq ?_; refine pwx_sr 0 [some 8, some 9, some 10, some 11, some 12, some 13, some 14] (by rfl) fun _ K2 => ?_; refine rgnX_take 1 fun _ K3 => ?_; simp (disch := omega) only [go_sem, flat3_im, flat3_nm, ints_im, ints_length, flat6_im]; refine ⟨_, c_swarflaw05_awake, ?_⟩; refine K3 _ ?_; simp (disch := omega) only [go_sem, flat3_im, flat3_nm, ints_im, ints_length, flat6_im]; refine K2 _ ?_; clear K3 K2; refine pwp_cond (b := false) (by rfl) (fun h => nomatch h) (fun _ => ?_); refine pwp_skip ?_; refine n_then ?_; refine pwp_seq ?_; refine pwx_sr 0 [] (by rfl) fun _ K4 => ?_; simp (disch := omega) only [go_sem, flat3_im, flat3_nm, ints_im, ints_length, flat6_im]; refine K4 _ ?_; clear K4; refine pwp_block ?_; refine pwp_loopF (true :: false :: false :: false :: false :: false :: false :: false :: false :: false :: false :: false :: false :: false :: false :: false :: true :: true :: true :: false :: false :: false :: false :: false :: false :: false :: false :: false :: false :: false :: false :: false :: false :: false :: false :: false :: false :: false :: false :: false :: false :: false :: false :: false :: false :: false :: false :: false :: false :: false :: []) 0 (fun M s => ∃ j : Nat, (j ≤ k) ∧ E.length - j = M ∧ s = { slots := .e (.c (.sl E.length (flat6 E))) :: .j :: .j :: .j :: .j :: .j :: .j :: .j :: .j :: .j :: .j :: .j :: .j :: .j :: .j :: .j :: .e (.c (.sl E.length (flat6 E))) :: .e (.c (.int .i64 (E.length : Int))) :: .e (.c (.int .i64 (j : Int))) :: .j :: .j :: .j :: .j :: .j :: .j :: .j :: .j :: .j :: .j :: .j :: .j :: .j :: .j :: .j :: .j :: .j :: .j :: .j :: .j :: .j :: .j :: .j :: .j :: .j :: .j :: .j :: .j :: .j :: .j :: .j :: [], st := [] }) (n := E.length) rfl ?_ ?_ ?_
  · refine ⟨0, ?_, rfl, ?_⟩
    · omega
    · first | rfl | simp [St.cut, keep]
  · refine ⟨rfl, ?_, ?_⟩ <;> first | rfl | (simp [keep, PV.lt, PE.lt, PC.lt, Box.lt, ↓lC_lt]; done) | simp [keep, PV.lt, PE.lt, PC.lt, Box.lt, ↓lC_lt, ↓intC_lt, ↓ratC_lt, ↓u32s_lt]
  · rintro _ _ ⟨j, hj, rfl, rfl⟩
    refine pwx_sr 0 [] (by rfl) fun _ K5 => ?_; simp (disch := omega) only [go_sem, flat3_im, flat3_nm, ints_im, ints_length, flat6_im]; refine K5 _ ?_; clear K5; refine pwp_seq ?_; refine pwp_cond (b := true) (by rfl) (fun _ => ?_) (fun h => nomatch h); refine pwp_skip ?_; refine n_then ?_; refine pwp_seq ?_; refine pwp_block ?_; obtain ⟨x, hx⟩ : ∃ x, E[j]? = some x := ⟨_, List.getElem?_eq_getElem (by omega)⟩; have hi := @idx6 E j E.length x hx rfl
    rcases Nat.lt_or_ge j k with hjk | hjk
    · have hs := h1 j x hjk hx; obtain ⟨n0, n1, n2, n3, n4, n5, l0, l1, l2, l3, l4, l5⟩ := x; simp only [Raw6.c] at hi hs; refine pwx_sr 1 [] (by rfl) fun _ K6 => ?_; simp (disch := omega) only [go_sem, flat3_im, flat3_nm, ints_im, ints_length, flat6_im, hi]; refine K6 _ ?_; clear K6; refine pwx_sr 0 [] (by rfl) fun _ K7 => ?_; refine rgnX_take 2 fun _ K8 => ?_; simp (disch := omega) only [go_sem, flat3_im, flat3_nm, ints_im, ints_length, flat6_im]; refine ⟨_, hs, ?_⟩; refine K8 _ ?_; simp (disch := omega) only [go_sem, flat3_im, flat3_nm, ints_im, ints_length, flat6_im]; refine K7 _ ?_; clear K8 K7; refine pwp_cond (b := false) (by rfl) (fun h => nomatch h) (fun _ => ?_); refine pwp_skip ?_; refine n_block ?_; refine n_then ?_; refine pwx_region 0 [] (by rfl) fun _ K9 => ?_; simp (disch := omega) only [go_sem, flat3_im, flat3_nm, ints_im, ints_length, flat6_im]; refine K9 _ ?_; clear K9; refine n_then ?_; refine ⟨_, ?hdec, ⟨j + 1, ?hf0, rfl, ?heq⟩, ?hok⟩
      case heq => first | rfl | simp [St.cut, keep]
      case hf0 => omega
      case hdec => omega
      case hok => refine ⟨rfl, ?_, ?_⟩ <;> first | rfl | (simp [keep, PV.lt, PE.lt, PC.lt, Box.lt, ↓lC_lt]; done) | simp [keep, PV.lt, PE.lt, PC.lt, Box.lt, ↓lC_lt, ↓intC_lt, ↓ratC_lt, ↓u32s_lt]
    · obtain rfl : j = k := by omega
      have hs := h2 x hx; obtain ⟨n0, n1, n2, n3, n4, n5, l0, l1, l2, l3, l4, l5⟩ := x; simp only [Raw6.c] at hi hs; refine pwx_sr 1 [] (by rfl) fun _ K10 => ?_; simp (disch := omega) only [go_sem, flat3_im, flat3_nm, ints_im, ints_length, flat6_im, hi]; refine K10 _ ?_; clear K10; refine pwx_sr 0 [] (by rfl) fun _ K11 => ?_; refine rgnX_take 2 fun _ K12 => ?_; simp (disch := omega) only [go_sem, flat3_im, flat3_nm, ints_im, ints_length, flat6_im]; refine ⟨_, hs, ?_⟩; refine K12 _ ?_; simp (disch := omega) only [go_sem, flat3_im, flat3_nm, ints_im, ints_length, flat6_im]; refine K11 _ ?_; clear K12 K11; refine pwp_cond (b := true) (by rfl) (fun _ => ?_) (fun h => nomatch h); refine pwx_sr 0 [] (by rfl) fun _ K13 => ?_; simp (disch := omega) only [go_sem, flat3_im, flat3_nm, ints_im, ints_length, flat6_im]; refine K13 _ ?_; clear K13; refine pwp_ret ?_; refine r_block ?_; refine r_then ?_; refine r_then ?_; refine r_block ?_; refine r_then ?_; refine ⟨Or.inr rfl, ?_⟩; simp (disch := omega) only [go_sem, flat3_im, flat3_nm, ints_im, ints_length, flat6_im]
set_option maxHeartbeats 4000000 in
theorem w_RadicalSort_t (Q : List R3) (hQ : ∀ r ∈ Q, SzR r.a 2 ∧ SzR r.b 2 ∧ SzR r.c 2 ∧ 0 ≤ r.c) (hl : Q.length ≤ 12) (hS : ∀ i, i < Q.length → Ret Tryz.prog 17 [.a (ratC (g3 Q i).a ++ (ratC (g3 Q i).b ++ ratC (g3 Q i).c))] (.e (.c (.bool true)))) :
    Ret Tryz.prog 9 [.c (.sl Q.length (flat3 Q))] (.e (.c (.bool true))) := by
  refine ret_of_body (md := {}) Tryz.func9 (by kernel_rfl) rfl ?_; simp only [Tryz.f9, go_sem, Nat.reduceAdd, Nat.reduceSub, List.reduceReplicate]; refine pwx_sr 0 [] (by rfl) fun _ K1 => ?_; simp (disch := omega) only [go_sem, flat3_im, flat3_nm, ints_im, ints_length, flat6_im]; refine K1 _ ?_; clear K1; refine pwp_seq ?_; refine pwx_sr 0 [some 8, some 9, some 10, some 11, some 12, some 13, some 14] (by rfl) fun _ K2 => ?_; refine rgnX_take 1 fun _ K3 => ?_; simp (disch := omega) only [go_sem, flat3_im, flat3_nm, ints_im, ints_length, flat6_im]; refine ⟨_, c_swarflaw05_awake, ?_⟩; refine K3 _ ?_; simp (disch := omega) only [go_sem, flat3_im, flat3_nm, ints_im, ints_length, flat6_im]; refine K2 _ ?_; clear K3 K2; refine pwp_cond (b := false) (by rfl) (fun h => nomatch h) (fun _ => ?_); refine pwp_skip ?_; refine n_then ?_; refine pwp_seq ?_; refine pwx_sr 0 [] (by rfl) fun _ K4 => ?_; simp (disch := omega) only [go_sem, flat3_im, flat3_nm, ints_im, ints_length, flat6_im]; refine K4 _ ?_; clear K4; refine pwp_block ?_; refine pwp_loopF (true :: false :: false :: false :: false :: false :: false :: false :: false :: false :: false :: false :: false :: false :: false :: false :: true :: true :: true :: false :: false :: false :: false :: false :: false :: false :: false :: false :: false :: false :: false :: false :: false :: false :: false :: false :: false :: false :: false :: false :: false :: false :: false :: false :: false :: false :: false :: false :: false :: false :: []) 0 (fun M s => ∃ j : Nat, (j ≤ Q.length) ∧ Q.length - j = M ∧ s = { slots := .e (.c (.sl Q.length (flat3 Q))) :: .j :: .j :: .j :: .j :: .j :: .j :: .j :: .j :: .j :: .j :: .j :: .j :: .j :: .j :: .j :: .e (.c (.sl Q.length (flat3 Q))) :: .e (.c (.int .i64 (Q.length : Int))) :: .e (.c (.int .i64 (j : Int))) :: .j :: .j :: .j :: .j :: .j :: .j :: .j :: .j :: .j :: .j :: .j :: .j :: .j :: .j :: .j :: .j :: .j :: .j :: .j :: .j :: .j :: .j :: .j :: .j :: .j :: .j :: .j :: .j :: .j :: .j :: .j :: [], st := [] }) (n := Q.length) rfl ?_ ?_ ?_
  · refine ⟨0, ?_, rfl, ?_⟩
    · omega
    · first | rfl | simp [St.cut, keep]
  · refine ⟨rfl, ?_, ?_⟩ <;> first | rfl | (simp [keep, PV.lt, PE.lt, PC.lt, Box.lt, ↓lC_lt]; done) | simp [keep, PV.lt, PE.lt, PC.lt, Box.lt, ↓lC_lt, ↓intC_lt, ↓ratC_lt, ↓u32s_lt]
  · rintro _ _ ⟨j, hj, rfl, rfl⟩
    refine pwx_sr 0 [] (by rfl) fun _ K5 => ?_; simp (disch := omega) only [go_sem, flat3_im, flat3_nm, ints_im, ints_length, flat6_im]; refine K5 _ ?_; clear K5; refine pwp_seq ?_; refine pwp_cond (b := _) (by rfl) (fun hb1 => ?_) (fun hb1 => ?_)
    · replace hb1 := of_decide_eq_true hb1; refine pwp_skip ?_; refine n_then ?_; refine pwp_seq ?_; refine pwp_block ?_
      have hjl : j < Q.length := by omega
      have hi := @idx3 Q j Q.length hjl rfl
      · refine pwx_sr 1 [] (by rfl) fun _ K6 => ?_; simp (disch := omega) only [go_sem, flat3_im, flat3_nm, ints_im, ints_length, flat6_im, hi]; refine K6 _ ?_; clear K6; refine pwx_sr 0 [] (by rfl) fun _ K7 => ?_; refine rgnX_take 2 fun _ K8 => ?_; simp (disch := omega) only [go_sem, flat3_im, flat3_nm, ints_im, ints_length, flat6_im]; refine ⟨_, hS j hjl, ?_⟩; refine K8 _ ?_; simp (disch := omega) only [go_sem, flat3_im, flat3_nm, ints_im, ints_length, flat6_im]; refine K7 _ ?_; clear K8 K7; refine pwp_cond (b := false) (by rfl) (fun h => nomatch h) (fun _ => ?_); refine pwp_skip ?_; refine n_block ?_; refine n_then ?_; refine pwx_region 0 [] (by rfl) fun _ K9 => ?_; simp (disch := omega) only [go_sem, flat3_im, flat3_nm, ints_im, ints_length, flat6_im]; refine K9 _ ?_; clear K9; refine n_then ?_; refine ⟨_, ?hdec, ⟨j + 1, ?hf0, rfl, ?heq⟩, ?hok⟩
        case heq => first | rfl | simp [St.cut, keep]
        case hf0 => omega
        case hdec => omega
        case hok => refine ⟨rfl, ?_, ?_⟩ <;> first | rfl | (simp [keep, PV.lt, PE.lt, PC.lt, Box.lt, ↓lC_lt]; done) | simp [keep, PV.lt, PE.lt, PC.lt, Box.lt, ↓lC_lt, ↓intC_lt, ↓ratC_lt, ↓u32s_lt]
    · replace hb1 := of_decide_eq_false hb1; refine pwp_exit ?_; refine e_then ?_; refine e_then ?_; refine e_here ?_; refine n_then ?_; refine pwx_sr 0 [] (by rfl) fun _ K10 => ?_; refine rgnX_take 2 fun _ K11 => ?_; simp (disch := omega) only [go_sem, flat3_im, flat3_nm, ints_im, ints_length, flat6_im]; refine ⟨_, c_radical_Sort Q hQ hl, ?_⟩; refine K11 _ ?_; refine rgnX_take 2 fun _ K12 => ?_; simp (disch := omega) only [go_sem, flat3_im, flat3_nm, ints_im, ints_length, flat6_im]; refine ⟨_, c_swarfref05_Sort Q hQ hl, ?_⟩; refine K12 _ ?_; simp (disch := omega) only [go_sem, flat3_im, flat3_nm, ints_im, ints_length, flat6_im]; refine K10 _ ?_; clear K12 K11 K10; refine pwp_seq ?_; refine pwx_sr 0 [] (by rfl) fun _ K13 => ?_; simp (disch := omega) only [go_sem, flat3_im, flat3_nm, ints_im, ints_length, flat6_im, eq_self]; refine K13 _ ?_; clear K13; refine pwp_cond (b := false) (by rfl) (fun h => nomatch h) (fun _ => ?_); refine pwp_skip ?_; refine n_then ?_; refine pwp_seq ?_; refine pwx_sr 0 [] (by rfl) fun _ K14 => ?_; simp (disch := omega) only [go_sem, flat3_im, flat3_nm, ints_im, ints_length, flat6_im]; refine K14 _ ?_; clear K14; refine pwp_block ?_; refine pwp_loopF (false :: false :: false :: false :: false :: true :: true :: false :: false :: false :: false :: false :: false :: false :: false :: false :: false :: false :: false :: false :: false :: false :: false :: false :: false :: false :: false :: false :: false :: false :: false :: false :: false :: false :: false :: true :: true :: true :: false :: false :: false :: false :: false :: false :: false :: false :: false :: false :: false :: false :: []) 0 (fun M s => ∃ j : Nat, (j ≤ Q.length) ∧ Q.length - j = M ∧ s = { slots := .j :: .j :: .j :: .j :: .j :: .e (.c (.sl Q.length (ints (srt Q Q.length)))) :: .e (.c (.sl Q.length (ints (srt Q Q.length)))) :: .j :: .j :: .j :: .j :: .j :: .j :: .j :: .j :: .j :: .j :: .j :: .j :: .j :: .j :: .j :: .j :: .j :: .j :: .j :: .j :: .j :: .j :: .j :: .j :: .j :: .j :: .j :: .j :: .e (.c (.sl Q.length (ints (srt Q Q.length)))) :: .e (.c (.int .i64 (Q.length : Int))) :: .e (.c (.int .i64 (j : Int))) :: .j :: .j :: .j :: .j :: .j :: .j :: .j :: .j :: .j :: .j :: .j :: .j :: [], st := [] }) (n := Q.length) rfl ?_ ?_ ?_
      · refine ⟨0, ?_, rfl, ?_⟩
        · omega
        · first | rfl | simp [St.cut, keep]
      · refine ⟨rfl, ?_, ?_⟩ <;> first | rfl | (simp [keep, PV.lt, PE.lt, PC.lt, Box.lt, ↓lC_lt]; done) | simp [keep, PV.lt, PE.lt, PC.lt, Box.lt, ↓lC_lt, ↓intC_lt, ↓ratC_lt, ↓u32s_lt]
      · rintro _ _ ⟨j, hj, rfl, rfl⟩
        refine pwx_sr 0 [] (by rfl) fun _ K15 => ?_; simp (disch := omega) only [go_sem, flat3_im, flat3_nm, ints_im, ints_length, flat6_im]; refine K15 _ ?_; clear K15; refine pwp_seq ?_; refine pwp_cond (b := _) (by rfl) (fun hb4 => ?_) (fun hb4 => ?_)
        · replace hb4 := of_decide_eq_true hb4; refine pwp_skip ?_; refine n_then ?_; refine pwp_seq ?_; refine pwp_block ?_; refine pwx_sr 0 [] (by rfl) fun _ K16 => ?_; simp (disch := omega) only [go_sem, flat3_im, flat3_nm, ints_im, ints_length, flat6_im]; refine K16 _ ?_; clear K16
          have hjl : j < Q.length := by omega
          have hsl := srt_len Q Q.length; have hi := @idxI (srt Q Q.length) j Q.length (by omega) hsl.symm
          · refine pwx_sd Tryz.mixed 0 [] (by rfl) [] (by kernel_rfl) (by simp) fun _ K17 => ?_; simp (disch := omega) only [go_sem, flat3_im, flat3_nm, ints_im, ints_length, flat6_im, hi, eq_self]; refine K17 _ ?_; clear K17; refine pwp_cond (b := false) (by rfl) (fun h => nomatch h) (fun _ => ?_); refine pwp_skip ?_; refine n_block ?_; refine n_then ?_; refine pwx_region 0 [] (by rfl) fun _ K18 => ?_; simp (disch := omega) only [go_sem, flat3_im, flat3_nm, ints_im, ints_length, flat6_im]; refine K18 _ ?_; clear K18; refine n_then ?_; refine ⟨_, ?hdec, ⟨j + 1, ?hf0, rfl, ?heq⟩, ?hok⟩
            case heq => first | rfl | simp [St.cut, keep]
            case hf0 => omega
            case hdec => omega
            case hok => refine ⟨rfl, ?_, ?_⟩ <;> first | rfl | (simp [keep, PV.lt, PE.lt, PC.lt, Box.lt, ↓lC_lt]; done) | simp [keep, PV.lt, PE.lt, PC.lt, Box.lt, ↓lC_lt, ↓intC_lt, ↓ratC_lt, ↓u32s_lt]
        · replace hb4 := of_decide_eq_false hb4; refine pwp_exit ?_; refine e_then ?_; refine e_then ?_; refine e_here ?_; refine n_then ?_; refine pwx_sr 0 [] (by rfl) fun _ K19 => ?_; simp (disch := omega) only [go_sem, flat3_im, flat3_nm, ints_im, ints_length, flat6_im]; refine K19 _ ?_; clear K19; refine pwp_ret ?_; refine ⟨Or.inr rfl, ?_⟩; simp (disch := omega) only [go_sem, flat3_im, flat3_nm, ints_im, ints_length, flat6_im]
theorem r_RadicalSort (E : List Raw6) : Ret Tryz.prog 9 [.c (.sl E.length (flat6 E))] (.e (.c (.bool true))) := by
  by_cases hl : 12 < E.length
  · exact w_RadicalSort_b E hl
  rcases list_or (A := fun x : Raw6 => Ret Tryz.prog 17 [.a x.c] (.e (.c (.bool false)))) (B := fun (x : Raw6) (y : R3) => SzR y.a 2 ∧ SzR y.b 2 ∧ SzR y.c 2 ∧ 0 ≤ y.c ∧ x.c = y.cell ∧ Ret Tryz.prog 17 [.a y.cell] (.e (.c (.bool true)))) (fun x => by
    rcases rsmall_or x.n0 x.n1 x.n2 x.n3 x.n4 x.n5 x.l0 x.l1 x.l2 x.l3 x.l4 x.l5 with h | ⟨a, b, c, ha, hb, hc, hv, e, h⟩
    · exact .inl h
    · exact .inr ⟨⟨a, b, c⟩, ha, hb, hc, (vld3_rdc hv).1.1, e, h⟩) E with ⟨Q, hQ⟩ | ⟨k, x, hk, ha, hb⟩
  · obtain ⟨h1, h2⟩ := flat_eq (fun _ _ h => h.2.2.2.2.1) hQ
    have hB : ∀ {i : Nat} {r : R3}, Q[i]? = some r → SzR r.a 2 ∧ SzR r.b 2 ∧ SzR r.c 2 ∧ 0 ≤ r.c ∧ Ret Tryz.prog 17 [.a r.cell] (.e (.c (.bool true))) := fun {i r} hi => by
      obtain ⟨x, _, q1, q2, q3, q4, _, q5⟩ := hQ.get i r hi
      exact ⟨q1, q2, q3, q4, q5⟩
    rw [h1, h2]
    refine w_RadicalSort_t Q (fun r hr => ?_) (by omega) (fun i hi => (hB (get3 hi)).2.2.2.2)
    obtain ⟨i, hi⟩ := List.getElem?_of_mem hr
    obtain ⟨q1, q2, q3, q4, _⟩ := hB hi
    exact ⟨q1, q2, q3, q4⟩
  · refine w_RadicalSort_x E k (List.getElem?_eq_some_iff.1 hk).1 (by omega) (fun j x hj hx => ?_) (fun y hy => ?_)
    · obtain ⟨y, _, _, _, _, q, h⟩ := hb j x hj hx
      rw [q]; exact h
    · rw [hk, Option.some.injEq] at hy
      rw [← hy]; exact ha

end Go.Proofs.YtdojhoegildiaaaGreat
