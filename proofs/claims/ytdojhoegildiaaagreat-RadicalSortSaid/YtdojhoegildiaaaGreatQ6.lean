/- The walks of intervals, sixth part. Conditions: none.
   The pure layer, sixteenth part: calls that write the block to which their first argument points. Conditions: none (lemmas).
   The walks of signs of sums with two roots, first part. Conditions: none.
   Signs of sums with two roots in the walks: by intervals. Conditions: each lemma's own.
   The walks of signs of sums with two roots, second part. Conditions: none.
   Signs of sums with two roots in the walks: exact. Conditions: each lemma's own.
   The walks of signs of sums with two roots, third part. Conditions: none.
   The walks of signs of sums with two roots, fourth part. Conditions: none.
   The walks of the reference's signs of sums with two roots. Conditions: none.
   The walk of root.Floor. Conditions: none.
   Points in the walks. Conditions: each lemma's own.
   The examples of the chapter on points in the walks. Conditions: each lemma's own.
   Statements on points, in plain terms. Conditions: each lemma's own.
   Slices of points in the walks. Conditions: each lemma's own.
   Squares of distances, in plain terms. Conditions: each lemma's own.
   Nearby points in the walks. Conditions: each lemma's own.
   The greatest integer that is not greater than a root, in plain terms. Conditions: each lemma's own.
   How near two roots can be to each other. Conditions: each lemma's own.
   The simplest fraction between two roots: what it is, that there is but one, how continued fractions lead to it. Conditions: each lemma's own.
   The roots that a continued fraction leads through: their sizes, their values. Conditions: each lemma's own.
   Comparing roots with fractions, inverses: in the walks. Conditions: each lemma's own.
   The walks of comparing roots with fractions, of inverses. Conditions: none.
   Nearby points, in plain terms. Conditions: each lemma's own.
   The walk of radical.between, case by case. Conditions: none. -/
import Derived.Test.YtdojhoegildiaaaGreatQ5
set_option linter.unusedVariables false
set_option linter.unusedSimpArgs false
set_option linter.unusedSimpArgs false
set_option linter.unusedVariables false
set_option maxRecDepth 20000
namespace Go.Proofs.YtdojhoegildiaaaGreat
open Go Go.PL Go.RL
set_option maxHeartbeats 4000000 in
theorem c_filter_Root (a b c : Rat) {k l m : Nat} [SzR a k] [SzR b l] [SzR c m] (hk : k + l + m ≤ 20000) :
    Ret Tryz.prog 94 [.a (ratC (a) ++ (ratC (b) ++ ratC (c)))] (.t [.a [.int .i64 (rooF a b c).lo, .int .i64 (rooF a b c).hi], .c (.bool (rooF a b c).ok)]) := by
  refine ret_of_body (md := {}) Tryz.func94 (by kernel_rfl) rfl ?_; simp only [Tryz.f94, go_sem, Nat.reduceAdd, Nat.reduceSub, List.reduceReplicate]; refine pwx_sr 2 [] (by rfl) fun _ K1 => ?_; simp (disch := omega) only [go_sem]; refine K1 _ ?_; clear K1; refine pwx_sr 1 [] (by rfl) fun _ K2 => ?_; refine rgnX_take 3 fun _ K3 => ?_; simp (disch := omega) only [go_sem]; refine ⟨_, c_filter_FromRat _ (by omega), ?_⟩; refine K3 _ ?_; simp (disch := omega) only [go_sem]; refine K2 _ ?_; clear K3 K2; refine pwp_seq ?_
  rcases h1 : (frF a).ok with _ | _
  · refine pwx_sr 0 [some 15, some 16, some 17, some 18, some 19, some 20, some 21, some 22] (by rfl) fun _ K4 => ?_; refine rgnX_take 6 fun _ K5 => ?_; simp (disch := omega) only [go_sem, h1]
    first | refine ⟨_, c_rational_Sign _, ?_⟩ | skip
    refine K5 _ ?_; simp (disch := omega) only [go_sem, h1]; refine K4 _ ?_; clear K5 K4; refine pwp_cond (b := true) (by rfl) (fun _ => ?_) (fun h => nomatch h); refine pwx_sr 0 [] (by rfl) fun _ K6 => ?_; simp (disch := omega) only [go_sem]; refine K6 _ ?_; clear K6; refine pwp_ret ?_; refine r_then ?_; refine ⟨Or.inr rfl, ?_⟩; simp (disch := omega) only [go_sem]
    rw [rooF_1 (Or.inl h1)]; exact ⟨⟨rfl, rfl⟩, h1⟩
  · refine pwx_sr 0 [some 15, some 16, some 17, some 18, some 19, some 20, some 21, some 22] (by rfl) fun _ K7 => ?_; refine rgnX_take 6 fun _ K8 => ?_; simp (disch := omega) only [go_sem, h1]
    first | refine ⟨_, c_rational_Sign _, ?_⟩ | skip
    refine K8 _ ?_; simp (disch := omega) only [go_sem, h1]; refine K7 _ ?_; clear K8 K7; refine pwp_cond (b := _) (by rfl) (fun hb1 => ?_) (fun hb1 => ?_)
    · first | replace hb1 := of_decide_eq_true hb1 | skip
      refine pwx_sr 0 [] (by rfl) fun _ K9 => ?_; simp (disch := omega) only [go_sem]; refine K9 _ ?_; clear K9; refine pwp_ret ?_; refine r_then ?_; refine ⟨Or.inr rfl, ?_⟩; simp (disch := omega) only [go_sem]
      rw [rooF_1 (Or.inr (by assumption))]; exact ⟨⟨rfl, rfl⟩, h1⟩
    · first | replace hb1 := of_decide_eq_false hb1 | skip
      refine pwp_skip ?_; refine n_then ?_; refine pwx_sr 1 [] (by rfl) fun _ K10 => ?_; refine rgnX_take 3 fun _ K11 => ?_; simp (disch := omega) only [go_sem]; refine ⟨_, c_filter_FromRat _ (by omega), ?_⟩; refine K11 _ ?_; simp (disch := omega) only [go_sem]; refine K10 _ ?_; clear K11 K10; refine pwx_sr 1 [] (by rfl) fun _ K12 => ?_; refine rgnX_take 3 fun _ K13 => ?_; simp (disch := omega) only [go_sem]; refine ⟨_, c_filter_FromRat _ (by omega), ?_⟩; refine K13 _ ?_; simp (disch := omega) only [go_sem]; refine K12 _ ?_; clear K13 K12; refine pwp_seq ?_
      rcases h2 : (frF b).ok with _ | _ <;> rcases h3 : (frF c).ok with _ | _
      · refine pwx_sr 0 [some 37, some 38, some 39, some 40, some 41, some 42, some 43, some 44, some 45, some 46, some 47, some 48] (by rfl) fun _ K14 => ?_; refine rgnX_take 10 fun _ K15 => ?_; simp (disch := omega) only [go_sem, h2, h3]
        first | refine ⟨_, c_rational_Sign _, ?_⟩ | skip
        refine K15 _ ?_; simp (disch := omega) only [go_sem, h2, h3]; refine K14 _ ?_; clear K15 K14; refine pwp_cond (b := true) (by rfl) (fun _ => ?_) (fun h => nomatch h); refine pwx_sr 0 [] (by rfl) fun _ K16 => ?_; simp (disch := omega) only [go_sem]; refine K16 _ ?_; clear K16; refine pwp_ret ?_; refine r_then ?_; refine ⟨Or.inr rfl, ?_⟩; simp (disch := omega) only [go_sem]
        rw [rooF_2 (by simp_all) (by simp_all)]; exact ⟨⟨rfl, rfl⟩, rfl⟩
      · refine pwx_sr 0 [some 37, some 38, some 39, some 40, some 41, some 42, some 43, some 44, some 45, some 46, some 47, some 48] (by rfl) fun _ K17 => ?_; refine rgnX_take 10 fun _ K18 => ?_; simp (disch := omega) only [go_sem, h2, h3]
        first | refine ⟨_, c_rational_Sign _, ?_⟩ | skip
        refine K18 _ ?_; simp (disch := omega) only [go_sem, h2, h3]; refine K17 _ ?_; clear K18 K17; refine pwp_cond (b := true) (by rfl) (fun _ => ?_) (fun h => nomatch h); refine pwx_sr 0 [] (by rfl) fun _ K19 => ?_; simp (disch := omega) only [go_sem]; refine K19 _ ?_; clear K19; refine pwp_ret ?_; refine r_then ?_; refine ⟨Or.inr rfl, ?_⟩; simp (disch := omega) only [go_sem]
        rw [rooF_2 (by simp_all) (by simp_all)]; exact ⟨⟨rfl, rfl⟩, rfl⟩
      · refine pwx_sr 0 [some 37, some 38, some 39, some 40, some 41, some 42, some 43, some 44, some 45, some 46, some 47, some 48] (by rfl) fun _ K20 => ?_; refine rgnX_take 10 fun _ K21 => ?_; simp (disch := omega) only [go_sem, h2, h3]
        first | refine ⟨_, c_rational_Sign _, ?_⟩ | skip
        refine K21 _ ?_; simp (disch := omega) only [go_sem, h2, h3]; refine K20 _ ?_; clear K21 K20; refine pwp_cond (b := true) (by rfl) (fun _ => ?_) (fun h => nomatch h); refine pwx_sr 0 [] (by rfl) fun _ K22 => ?_; simp (disch := omega) only [go_sem]; refine K22 _ ?_; clear K22; refine pwp_ret ?_; refine r_then ?_; refine ⟨Or.inr rfl, ?_⟩; simp (disch := omega) only [go_sem]
        rw [rooF_2 (by simp_all) (by simp_all)]; exact ⟨⟨rfl, rfl⟩, rfl⟩
      · refine pwx_sr 0 [some 37, some 38, some 39, some 40, some 41, some 42, some 43, some 44, some 45, some 46, some 47, some 48] (by rfl) fun _ K23 => ?_; refine rgnX_take 10 fun _ K24 => ?_; simp (disch := omega) only [go_sem, h2, h3]
        first | refine ⟨_, c_rational_Sign _, ?_⟩ | skip
        refine K24 _ ?_; simp (disch := omega) only [go_sem, h2, h3]; refine K23 _ ?_; clear K24 K23; refine pwp_cond (b := _) (by rfl) (fun hb5 => ?_) (fun hb5 => ?_)
        · first | replace hb5 := of_decide_eq_true hb5 | skip
          refine pwx_sr 0 [] (by rfl) fun _ K25 => ?_; simp (disch := omega) only [go_sem]; refine K25 _ ?_; clear K25; refine pwp_ret ?_; refine r_then ?_; refine ⟨Or.inr rfl, ?_⟩; simp (disch := omega) only [go_sem]
          rw [rooF_2 (by simp_all) (by simp_all)]; exact ⟨⟨rfl, rfl⟩, rfl⟩
        · first | replace hb5 := of_decide_eq_false hb5 | skip
          refine pwp_skip ?_; refine n_then ?_; refine pwp_seq ?_; refine pwx_sr 0 [] (by rfl) fun _ K26 => ?_; refine rgnX_take 2 fun _ K27 => ?_; simp (disch := omega) only [go_sem]; refine ⟨_, c_filter_Sqrt _ (frF_bd _), ?_⟩; refine K27 _ ?_; simp (disch := omega) only [go_sem]; refine K26 _ ?_; clear K27 K26
          rcases h4 : (sqF (frF c)).ok with _ | _
          · refine pwx_sr 0 [] (by rfl) fun _ K28 => ?_; simp (disch := omega) only [go_sem, h4]; refine K28 _ ?_; clear K28; refine pwp_cond (b := true) (by rfl) (fun _ => ?_) (fun h => nomatch h); refine pwx_sr 0 [] (by rfl) fun _ K29 => ?_; simp (disch := omega) only [go_sem]; refine K29 _ ?_; clear K29; refine pwp_ret ?_; refine r_then ?_; refine ⟨Or.inr rfl, ?_⟩; simp (disch := omega) only [go_sem]
            rw [rooF_3 (by simp_all) (by simp_all) h4]; exact ⟨⟨rfl, rfl⟩, rfl⟩
          · refine pwx_sr 0 [] (by rfl) fun _ K30 => ?_; simp (disch := omega) only [go_sem, h4]; refine K30 _ ?_; clear K30; refine pwp_cond (b := false) (by rfl) (fun h => nomatch h) (fun _ => ?_); refine pwp_skip ?_; refine n_then ?_; refine pwp_seq ?_; refine pwx_sr 0 [] (by rfl) fun _ K31 => ?_; refine rgnX_take 3 fun _ K32 => ?_; simp (disch := omega) only [go_sem]; refine ⟨_, c_filter_Mul _ _ (frF_bd _) (sqF_bd (frF_bd _)), ?_⟩; refine K32 _ ?_; simp (disch := omega) only [go_sem]; refine K31 _ ?_; clear K32 K31
            rcases h5 : (muF (frF b) (sqF (frF c))).ok with _ | _
            · refine pwx_sr 0 [] (by rfl) fun _ K33 => ?_; simp (disch := omega) only [go_sem, h5]; refine K33 _ ?_; clear K33; refine pwp_cond (b := true) (by rfl) (fun _ => ?_) (fun h => nomatch h); refine pwx_sr 0 [] (by rfl) fun _ K34 => ?_; simp (disch := omega) only [go_sem]; refine K34 _ ?_; clear K34; refine pwp_ret ?_; refine r_then ?_; refine ⟨Or.inr rfl, ?_⟩; simp (disch := omega) only [go_sem]
              rw [rooF_4 (by simp_all) (by simp_all) h4 h5]; exact ⟨⟨rfl, rfl⟩, rfl⟩
            · refine pwx_sr 0 [] (by rfl) fun _ K35 => ?_; simp (disch := omega) only [go_sem, h5]; refine K35 _ ?_; clear K35; refine pwp_cond (b := false) (by rfl) (fun h => nomatch h) (fun _ => ?_); refine pwp_skip ?_; refine n_then ?_; refine pwx_sr 0 [] (by rfl) fun _ K36 => ?_; refine rgnX_take 3 fun _ K37 => ?_; simp (disch := omega) only [go_sem]; refine ⟨_, c_filter_Add _ _ (frF_bd _) (muF_bd _ _), ?_⟩; refine K37 _ ?_; simp (disch := omega) only [go_sem]; refine K36 _ ?_; clear K37 K36; refine pwp_ret ?_; refine ⟨Or.inr rfl, ?_⟩; simp (disch := omega) only [go_sem]
              rw [rooF_5 (by simp_all) (by simp_all) h4 h5]; exact ⟨⟨rfl, rfl⟩, rfl⟩

end Go.Proofs.YtdojhoegildiaaaGreat

namespace Go.PL
open Go.RowKit
section
variable {P : Program} {Q : Exit → St → Prop}
theorem retW_of_bodyP {f : FuncId} {fn : Func} {c : Code} (hf : P.funcs[f]? = some fn) (hname : (fn.name == "runtime.NumGoroutine") = false) (hb : fn.body = some c) {off : Nat} {rest : List PE} {cs : List PC} {md : Md} (hfz : md.fz = false)
    (hrest : rest.all PE.im = true) (hcs : cs.all PC.im = true) (T : PV → List PC → Prop)
    (h : PWp P md c { slots := (.e (.c (.ptr 0 off))) :: (rest.map .e ++ List.replicate (fn.ntmps - (rest.length + 1)) (.t [])), st := [.live cs] } fun e s => (e = .normal ∨ e = .ret) ∧ ∃ l, resAll P s fn.results.toList = some l ∧ l.all PE.im = true ∧ ∃ cs', cs'.all PC.im = true ∧ T (pack (l.map PE.norm)) cs' ∧ ∃ τ, s.st = .live cs' :: τ)
    (id : Nat) (σ : List Box) (hid : σ[id]? = some (.live cs)) : RetM P f (.c (.ptr id off) :: rest) σ fun r' σ' => ∃ cs', T r' cs' ∧ σ' = σ.set id (.live cs') := by
  refine ⟨⟨fn, hf, hname, by rw [hb]; rfl⟩, fun G bl w vs hs hvs => ?_⟩
  refine calls_of_wp hf hb ?_
  have hidl : id < σ.length := there_lt ⟨_, hid, rfl⟩
  obtain ⟨arr, e, hheap, hcells, hgn⟩ := hs.live id cs hid
  let E : Env := { w0 := w, G0 := G, bl0 := fun _ => bl id, n0 := 1 }
  have hlen : vs.size = rest.length + 1 := by have := hvs.length; simpa using this
  have hthere : ∀ j, There [Box.live cs] j → j = 0 := by
    rintro j ⟨b, hb, _⟩
    cases j with
    | zero => rfl
    | succ j => simp at hb
  have hth0 : There [Box.live cs] 0 := ⟨_, rfl, rfl⟩
  obtain ⟨v0, vt, hvl, hv0, hvt⟩ : ∃ v0 vt, vs.toList = v0 :: vt ∧ RepE G bl (There σ) v0 (.c (.ptr id off)) ∧ All2 (RepE G bl (There σ)) vt rest := by
    generalize vs.toList = l at hvs
    cases hvs with
    | cons h1 h2 => exact ⟨_, _, rfl, h1, h2⟩
  have rel : Rel E { tmps := vs ++ Array.replicate (fn.ntmps - vs.size) undef, defers := [] } w { slots := (.e (.c (.ptr 0 off))) :: (rest.map .e ++ List.replicate (fn.ntmps - (rest.length + 1)) (.t [])), st := [.live cs] } G (fun _ => bl id) := by
    refine ⟨⟨?_, rfl, ⟨hs.agree, fun j ds h => ?_, fun j ds h => ?_, fun j j' ds ds' h h' _ => ?_⟩⟩, ⟨rfl, rfl, rfl, Nat.le_refl _, fun k _ _ => rfl, GLe.refl G, fun b o u h => .inl h, fun _ _ => rfl, fun j ds hj h => ?_, Nat.le_refl _⟩⟩
    · simp only [Array.toList_append, Array.toList_replicate, hlen, hvl, List.cons_append]
      refine .cons ?_ (All2.append (All2.map_right ?_) (All2.replicate _ undef_rep))
      · obtain ⟨_, e2⟩ := hv0
        exact ⟨hth0, e2⟩
      · exact hvt.im_of hrest
    · cases j with
      | zero =>
        simp at h; subst h
        exact ⟨arr, e, hheap, (hcells.irep_of_im hcs).mono fun _ _ => RepC.of_irep, hgn⟩
      | succ j => simp at h
    · cases j with
      | zero => simp at h
      | succ j => simp at h
    · have h1 := hthere j ⟨_, h, rfl⟩
      have h2 := hthere j' ⟨_, h', rfl⟩
      rw [h1, h2]
    · have h1 := hthere j ⟨_, h, rfl⟩
      have hj' : 1 ≤ j := hj
      omega
  refine wp_mono (h E _ w G (fun _ => bl id) (fun q => by rw [hfz] at q; cases q) rel) fun e' a' w' hp => ?_
  obtain ⟨s', G', bl', ⟨he, l, hl, him, cs', hcs', hT, τ, hτ⟩, rel'⟩ := hp
  obtain ⟨us, g1, g2⟩ := run_results rel' hl
  have g3 := run_results' g1
  have hx := rel'.ext
  have hb0 : bl' 0 = bl id := hx.same 0 (by show 0 < 1; omega)
  have hlive := rel'.rel.st.live 0 cs' (by rw [hτ]; rfl)
  obtain ⟨arr', e2, hheap', hcells', hgn'⟩ := hlive
  rw [hb0] at hheap' hgn'
  have gnone : ∀ b, b < w.heap.size → (∀ o, G b o = none) → ∀ o, G' b o = none := fun b hb hg o => by
    cases hgo : G' b o with
    | none => rfl
    | some u =>
      rcases hx.gnew b o u hgo with q | q
      · have q' : G b o = some u := q
        rw [hg o] at q'; simp at q'
      · exact absurd hb (Nat.not_lt.2 q)
  have hrel : RelS G' bl w' (σ.set id (.live cs')) := by
    refine ⟨rel'.rel.st.agree, fun j ds hj => ?_, fun j ds hj => ?_, fun j j' ds ds' hj hj' hbb => ?_⟩
    · by_cases hji : id = j
      · subst hji
        rw [List.getElem?_set_self hidl, Option.some.injEq, Box.live.injEq] at hj
        subst hj
        exact ⟨arr', e2, hheap', (hcells'.irep_of_im hcs').mono fun _ _ => RepC.of_irep, hgn'⟩
      · rw [List.getElem?_set_ne hji] at hj
        obtain ⟨arr1, e1, k1, k2, k3⟩ := hs.live j ds hj
        have hlt := heap_lt k1
        refine ⟨arr1, e1, ?_, ?_, gnone _ hlt k3⟩
        · rw [hx.block (bl j) hlt fun i hi hh => hji (hs.inj id j cs ds hid hj hh)]; exact k1
        · exact k2.mono fun u p => RepC.mono hx.gle (fun _ _ => rfl) fun i hi => there_set hidl hi
    · by_cases hji : id = j
      · subst hji
        rw [List.getElem?_set_self hidl, Option.some.injEq] at hj
        cases hj
      · rw [List.getElem?_set_ne hji] at hj
        obtain ⟨us1, k1, k2⟩ := hs.frz j ds hj
        exact ⟨us1, fun i hi => hx.gle _ _ _ (k1 i hi), fun i hi => IRep.mono hx.gle (k2 i hi)⟩
    · have back : ∀ {i : Nat} {xs : List PC}, (σ.set id (.live cs'))[i]? = some (.live xs) → ∃ ys, σ[i]? = some (.live ys) := fun {i xs} hi => by
        by_cases hii : id = i
        · subst hii; exact ⟨cs, hid⟩
        · rw [List.getElem?_set_ne hii] at hi; exact ⟨xs, hi⟩
      obtain ⟨y1, q1⟩ := back hj
      obtain ⟨y2, q2⟩ := back hj'
      exact hs.inj j j' y1 y2 q1 q2 hbb
  have fin : ∃ v, (results fn a'.tmps).run P w' = .ok v w' ∧ ∃ v' r' σ' G'' bl'', Ending.returned v = .returned v' ∧ (∃ ds, T r' ds ∧ σ' = σ.set id (.live ds)) ∧ RepV G'' bl'' (There σ') v' r' ∧ RelS G'' bl'' w' σ' ∧ (∀ j, There σ j → There σ' j) ∧ σ.length ≤ σ'.length ∧
      (∀ j, j < σ.length → bl'' j = bl j) ∧ (∀ j ds, σ.length ≤ j → σ'[j]? = some (.live ds) → w.heap.size ≤ bl'' j) ∧ (∀ j ds, σ'[j]? = some (.live ds) → j < σ.length → ∃ ds', σ[j]? = some (.live ds')) ∧
      GLe G G'' ∧ (∀ b o u, G'' b o = some u → G b o = some u ∨ w.heap.size ≤ b) ∧ w'.os = w.os ∧ w'.tape = w.tape ∧ w'.output = w.output ∧ w.heap.size ≤ w'.heap.size ∧
      ∀ k, k < w.heap.size → (∀ j ds, σ[j]? = some (.live ds) → bl j ≠ k) → w'.heap[k]? = w.heap[k]? := by
    refine ⟨_, g3, packV us, pack (l.map PE.norm), _, G', bl, rfl, ⟨_, hT, rfl⟩, ?_, hrel, fun j hj => there_set hidl hj, by simp, fun _ _ => rfl, fun j ds hj h2 => ?_, fun j ds hj _ => ?_, hx.gle, hx.gnew, hx.os, hx.tape, hx.output, hx.size, fun k hk hh => ?_⟩
    · exact pack_rep (All2.normE (g2.of_im him))
    · have := there_lt (σ := σ.set id (.live cs')) ⟨_, h2, rfl⟩
      simp at this; omega
    · by_cases hji : id = j
      · subst hji; exact ⟨cs, hid⟩
      · rw [List.getElem?_set_ne hji] at hj; exact ⟨ds, hj⟩
    · exact hx.block k hk fun i hi => hh id cs hid
  rcases he with rfl | rfl
  · exact ⟨rel'.rel.defers, fin⟩
  · exact ⟨rel'.rel.defers, fin⟩
theorem retW_of_M {P : Program} {f : FuncId} {args : List PE} {id : Nat} {cs cs' : List PC} {r : PV} (h : ∀ σ : List Box, σ[id]? = some (.live cs) → RetM P f args σ fun r' σ' => ∃ ds, (r' = r ∧ ds = cs') ∧ σ' = σ.set id (.live ds)) : RetW P f args id cs r cs' := fun σ hs => by
  have e : (fun (r' : PV) (σ' : List Box) => ∃ ds, (r' = r ∧ ds = cs') ∧ σ' = σ.set id (.live ds)) = fun r' σ' => r' = r ∧ σ' = σ.set id (.live cs') := by
    funext r' σ'
    refine propext ⟨?_, ?_⟩
    · rintro ⟨_, ⟨rfl, rfl⟩, rfl⟩; exact ⟨rfl, rfl⟩
    · rintro ⟨rfl, rfl⟩; exact ⟨_, ⟨rfl, rfl⟩, rfl⟩
  rw [← e]; exact h σ hs
end
end Go.PL

set_option linter.unusedSimpArgs false
set_option linter.unusedVariables false
set_option maxRecDepth 20000
namespace Go.Proofs.YtdojhoegildiaaaGreat
open Go Go.PL Go.RL
set_option maxHeartbeats 4000000 in
theorem w_known_with (k b : Bool) (i : Iv) (id : Nat) (σ : List Box) (hid : σ[id]? = some (.live ([.bool k]))) :
    RetM Tryz.prog 78 (.c (.ptr id 0) :: [.a [.int .i64 i.lo, .int .i64 i.hi], .c (.bool b)]) σ fun r' σ' => ∃ cs', (fun r' ds => r' = .e (.a [.int .i64 i.lo, .int .i64 i.hi]) ∧ ds = [.bool (k && b)]) r' cs' ∧ σ' = σ.set id (.live cs') := by
  refine retW_of_bodyP (md := { fz := false }) Tryz.func78 (by kernel_rfl) rfl rfl rfl (rfl) (fun r' ds => r' = .e (.a [.int .i64 i.lo, .int .i64 i.hi]) ∧ ds = [.bool (k && b)]) ?_ id σ hid; simp only [Tryz.f78, List.map_cons, List.map_nil, List.length_cons, List.length_nil, Nat.zero_add, List.cons_append, List.nil_append, Nat.reduceAdd, Nat.reduceSub, List.reduceReplicate]; refine pwx_sr 2 [] (by rfl) fun _ K1 => ?_; simp (disch := omega) only [go_sem]; refine K1 _ ?_; clear K1
  rcases k with _ | _
  · refine pwx_sr 0 [some 7, some 8, some 9, some 10, some 11, some 12, some 13, some 14, some 15, some 16, none] (by rfl) fun _ K2 => ?_; simp (disch := omega) only [go_sem]; refine K2 _ ?_; clear K2; refine pwx_sr 0 [] (by rfl) fun _ K3 => ?_; simp (disch := omega) only [go_sem]; refine K3 _ ?_; clear K3; refine pwp_ret ?_; refine ⟨Or.inr rfl, _, rfl, rfl, _, rfl, ?_, _, rfl⟩; exact ⟨by kernel_rfl, rfl⟩
  · refine pwx_sr 0 [some 7, some 8, some 9, some 10, some 11, some 12, some 13, some 14, some 15, some 16, none] (by rfl) fun _ K4 => ?_; simp (disch := omega) only [go_sem]; refine K4 _ ?_; clear K4; refine pwx_sr 0 [] (by rfl) fun _ K5 => ?_; simp (disch := omega) only [go_sem]; refine K5 _ ?_; clear K5; refine pwp_ret ?_; refine ⟨Or.inr rfl, _, rfl, rfl, _, rfl, ?_, _, rfl⟩; exact ⟨by kernel_rfl, rfl⟩

end Go.Proofs.YtdojhoegildiaaaGreat

namespace Go.PL
open Go.RL
def qk1 (M N : Rat) : Bool := (((frF M).ok && (sqF (frF M)).ok) && (frF N).ok) && (sqF (frF N)).ok
def qB (B M : Rat) : Iv := muF (frF B) (sqF (frF M))
def qC (C N : Rat) : Iv := muF (frF C) (sqF (frF N))
def qMN (M N : Rat) : Iv := muF (sqF (frF M)) (sqF (frF N))
def qD (D M N : Rat) : Iv := muF (frF D) (qMN M N)
def qk2 (B C D M N : Rat) : Bool := ((((((frF B).ok && (qB B M).ok) && (frF C).ok) && (qC C N).ok) && (frF D).ok) && (qMN M N).ok) && (qD D M N).ok
def qAB (A B M : Rat) : Iv := adF (frF A) (qB B M)
def qCD (C D M N : Rat) : Iv := adF (qC C N) (qD D M N)
def qS (A B C D M N : Rat) : Iv := adF (qAB A B M) (qCD C D M N)
def qk3 (A B C D M N : Rat) : Bool := (((frF A).ok && (qAB A B M).ok) && (qCD C D M N).ok) && (qS A B C D M N).ok
def quF (A B C D M N : Rat) : Int × Bool := if qk1 M N = true ∧ qk2 B C D M N = true ∧ qk3 A B C D M N = true then siF (qS A B C D M N) else (0, false)
variable {A B C D M N : Rat}
theorem quF_1 (h : qk1 M N = false) : quF A B C D M N = (0, false) := if_neg (by rw [h]; simp)
theorem quF_2 (h : qk2 B C D M N = false) : quF A B C D M N = (0, false) := if_neg (by rw [h]; simp)
theorem quF_3 (h : qk3 A B C D M N = false) : quF A B C D M N = (0, false) := if_neg (by rw [h]; simp)
theorem quF_4 (h1 : qk1 M N = true) (h2 : qk2 B C D M N = true) (h3 : qk3 A B C D M N = true) : quF A B C D M N = siF (qS A B C D M N) := if_pos ⟨h1, h2, h3⟩
theorem quF_ok (hM : 0 ≤ M) (hN : 0 ≤ N) (h : (quF A B C D M N).2 = true) : (quF A B C D M N).1 = quad A B C D M N := by
  unfold quF at h ⊢
  split
  · rename_i c
    rw [if_pos c] at h
    obtain ⟨c1, c2, c3⟩ := c
    simp only [qk1, qk2, qk3, Bool.and_eq_true] at c1 c2 c3
    obtain ⟨⟨⟨m1, m2⟩, n1⟩, n2⟩ := c1
    obtain ⟨⟨⟨⟨⟨⟨b1, b2⟩, e1⟩, e2⟩, d1⟩, d2⟩, d3⟩ := c2
    obtain ⟨⟨⟨a1, a2⟩, a3⟩, a4⟩ := c3
    rw [quad_eq hM hN]
    have im := sqF_ok hM m2 (frF_ok m1)
    have i_n := sqF_ok hN n2 (frF_ok n1)
    have hB := muF_ok b2 (frF_ok b1) im
    have hC := muF_ok e2 (frF_ok e1) i_n
    have hmn := muF_ok d2 im i_n
    have hD := muF_ok d3 (frF_ok d1) hmn
    have hS := adF_ok a4 (adF_ok a2 (frF_ok a1) hB) (adF_ok a3 hC hD)
    refine siF_ok h (inI_eqv (eqv_of_eq ?_) hS)
    apply Re.ext; intro n
    show A + B * (rt M).s n + (C * (rt N).s n + D * ((rt M).s n * (rt N).s n)) = A + B * (rt M).s n + (C + D * (rt M).s n) * (rt N).s n
    grind
  · rename_i c; rw [if_neg c] at h; cases h
def qK2 (B C D M N : Rat) : Bool := ((((((qk1 M N && (frF B).ok) && (qB B M).ok) && (frF C).ok) && (qC C N).ok) && (frF D).ok) && (qMN M N).ok) && (qD D M N).ok
def qK3 (A B C D M N : Rat) : Bool := (((qK2 B C D M N && (frF A).ok) && (qAB A B M).ok) && (qCD C D M N).ok) && (qS A B C D M N).ok
theorem qK2_eq (h : qk1 M N = true) : qK2 B C D M N = qk2 B C D M N := by simp only [qK2, h, Bool.true_and, qk2]
theorem qK3_eq (h : qK2 B C D M N = true) : qK3 A B C D M N = qk3 A B C D M N := by simp only [qK3, h, Bool.true_and, qk3]
theorem quG_1 (h : (!qk1 M N) = true) : quF A B C D M N = (0, false) := quF_1 (not_t h)
theorem quG_2 (h1 : (!qk1 M N) = false) (h : (!qK2 B C D M N) = true) : quF A B C D M N = (0, false) := quF_2 (by rw [← qK2_eq (not_f h1)]; exact not_t h)
theorem quG_3 (h2 : (!qK2 B C D M N) = false) (h : (!qK3 A B C D M N) = true) : quF A B C D M N = (0, false) := quF_3 (by rw [← qK3_eq (not_f h2)]; exact not_t h)
theorem quG_4 (h1 : (!qk1 M N) = false) (h2 : (!qK2 B C D M N) = false) (h3 : (!qK3 A B C D M N) = false) : quF A B C D M N = siF (qS A B C D M N) :=
  quF_4 (not_f h1) (by rw [← qK2_eq (not_f h1)]; exact not_f h2) (by rw [← qK3_eq (not_f h2)]; exact not_f h3)
end Go.PL

set_option linter.unusedSimpArgs false
set_option linter.unusedVariables false
set_option maxRecDepth 20000
namespace Go.Proofs.YtdojhoegildiaaaGreat
open Go Go.PL Go.RL
set_option maxHeartbeats 4000000 in
theorem c_radical_quick (A B C D M N : Rat) {kA kB kC kD kM kN : Nat} [SzR A kA] [SzR B kB] [SzR C kC] [SzR D kD] [SzR M kM] [SzR N kN] (hk : kA + kB + kC + kD + kM + kN ≤ 20000) :
    Ret Tryz.prog 39 [.a (ratC A ++ (ratC B ++ (ratC C ++ (ratC D ++ (ratC M ++ ratC N)))))] (.t [.c (.int .i64 (quF A B C D M N).1), .c (.bool (quF A B C D M N).2)]) := by
  refine ret_of_body (md := { wf := fun f => f == 78 }) Tryz.func39 (by kernel_rfl) rfl ?_; simp only [Tryz.f39, go_sem, Nat.reduceAdd, Nat.reduceSub, List.reduceReplicate]; refine pwx_sr 1 [] (by rfl) fun _ K1 => ?_; simp (disch := omega) only [go_sem]; refine K1 _ ?_; clear K1; refine pwx_sr 1 [] (by rfl) fun _ K2 => ?_; simp (disch := omega) only [go_sem]; refine K2 _ ?_; clear K2; refine pwx_sr 1 [] (by rfl) fun _ K3 => ?_; refine rgnX_take 5 fun _ K4 => ?_; simp (disch := omega) only [go_sem]; refine ⟨_, c_filter_FromRat _ (by omega), ?_⟩; refine K4 _ ?_; refine rgnX_take 3 fun _ K5 => ?_; simp (disch := omega) only [go_sem]; refine ⟨_, _, _, _, _, _, ⟨rfl, rfl⟩, rfl, retW_of_M (fun σ hs => w_known_with _ _ _ _ σ hs), ?_⟩; refine K5 _ ?_; refine rgnX_take 1 fun _ K6 => ?_; simp (disch := omega) only [go_sem]; refine ⟨_, c_filter_Sqrt _ (frF_bd _), ?_⟩; refine K6 _ ?_; refine rgnX_take 3 fun _ K7 => ?_; simp (disch := omega) only [go_sem]; refine ⟨_, _, _, _, _, _, ⟨rfl, rfl⟩, rfl, retW_of_M (fun σ hs => w_known_with _ _ _ _ σ hs), ?_⟩; refine K7 _ ?_; simp (disch := omega) only [go_sem]; refine K3 _ ?_; clear K7 K6 K5 K4 K3; refine pwx_sr 1 [] (by rfl) fun _ K8 => ?_; refine rgnX_take 5 fun _ K9 => ?_; simp (disch := omega) only [go_sem]; refine ⟨_, c_filter_FromRat _ (by omega), ?_⟩; refine K9 _ ?_; refine rgnX_take 3 fun _ K10 => ?_; simp (disch := omega) only [go_sem]; refine ⟨_, _, _, _, _, _, ⟨rfl, rfl⟩, rfl, retW_of_M (fun σ hs => w_known_with _ _ _ _ σ hs), ?_⟩; refine K10 _ ?_; refine rgnX_take 1 fun _ K11 => ?_; simp (disch := omega) only [go_sem]; refine ⟨_, c_filter_Sqrt _ (frF_bd _), ?_⟩; refine K11 _ ?_; refine rgnX_take 3 fun _ K12 => ?_; simp (disch := omega) only [go_sem]; refine ⟨_, _, _, _, _, _, ⟨rfl, rfl⟩, rfl, retW_of_M (fun σ hs => w_known_with _ _ _ _ σ hs), ?_⟩; refine K12 _ ?_; simp (disch := omega) only [go_sem]; refine K8 _ ?_; clear K12 K11 K10 K9 K8; refine pwp_seq ?_; refine pwx_sr 0 [] (by rfl) fun _ K13 => ?_; simp (disch := omega) only [go_sem]; refine K13 _ ?_; clear K13; refine pwp_cond (b := _) (by rfl) (fun hb0 => ?_) (fun hb0 => ?_)
  · first | replace hb0 := of_decide_eq_true hb0 | skip
    refine pwx_sr 0 [] (by rfl) fun _ K14 => ?_; simp (disch := omega) only [go_sem]; refine K14 _ ?_; clear K14; refine pwp_ret ?_; refine r_then ?_; refine ⟨Or.inr rfl, ?_⟩; simp (disch := omega) only [go_sem]
    rw [quG_1 hb0]; exact ⟨rfl, rfl⟩
  · first | replace hb0 := of_decide_eq_false hb0 | skip
    refine pwp_skip ?_; refine n_then ?_; refine pwx_sdH Tryz.mixed 1 [] (by rfl) [] [(1, 0), (4, 1), (5, 2), (7, 4), (42, 1), (43, 1), (44, 0)] (by kernel_rfl) (by kernel_rfl) (by simp) (by simp [HomeAt, St.pad]) fun _ K15 => ?_; refine rgnX_take 5 fun _ K16 => ?_; simp (disch := omega) only [go_sem]; refine ⟨_, c_filter_FromRat _ (by omega), ?_⟩; refine K16 _ ?_; refine rgnX_take 3 fun _ K17 => ?_; simp (disch := omega) only [go_sem]; refine ⟨_, _, _, _, _, _, ⟨rfl, rfl⟩, rfl, retW_of_M (fun σ hs => w_known_with _ _ _ _ σ hs), ?_⟩; refine K17 _ ?_; refine rgnX_take 2 fun _ K18 => ?_; simp (disch := omega) only [go_sem]; refine ⟨_, c_filter_Mul _ _ (by first | exact frF_bd _ | exact sqF_bd (frF_bd _) | exact muF_bd _ _) (by first | exact frF_bd _ | exact sqF_bd (frF_bd _) | exact muF_bd _ _), ?_⟩; refine K18 _ ?_; refine rgnX_take 3 fun _ K19 => ?_; simp (disch := omega) only [go_sem]; refine ⟨_, _, _, _, _, _, ⟨rfl, rfl⟩, rfl, retW_of_M (fun σ hs => w_known_with _ _ _ _ σ hs), ?_⟩; refine K19 _ ?_; simp (disch := omega) only [go_sem]; refine K15 _ ?_; clear K19 K18 K17 K16 K15; refine pwx_sdH Tryz.mixed 1 [] (by rfl) [] [(1, 0), (4, 1), (6, 3), (8, 5), (55, 1), (56, 1), (57, 0)] (by kernel_rfl) (by kernel_rfl) (by simp) (by simp [HomeAt, St.pad]) fun _ K20 => ?_; refine rgnX_take 5 fun _ K21 => ?_; simp (disch := omega) only [go_sem]; refine ⟨_, c_filter_FromRat _ (by omega), ?_⟩; refine K21 _ ?_; refine rgnX_take 3 fun _ K22 => ?_; simp (disch := omega) only [go_sem]; refine ⟨_, _, _, _, _, _, ⟨rfl, rfl⟩, rfl, retW_of_M (fun σ hs => w_known_with _ _ _ _ σ hs), ?_⟩; refine K22 _ ?_; refine rgnX_take 2 fun _ K23 => ?_; simp (disch := omega) only [go_sem]; refine ⟨_, c_filter_Mul _ _ (by first | exact frF_bd _ | exact sqF_bd (frF_bd _) | exact muF_bd _ _) (by first | exact frF_bd _ | exact sqF_bd (frF_bd _) | exact muF_bd _ _), ?_⟩; refine K23 _ ?_; refine rgnX_take 3 fun _ K24 => ?_; simp (disch := omega) only [go_sem]; refine ⟨_, _, _, _, _, _, ⟨rfl, rfl⟩, rfl, retW_of_M (fun σ hs => w_known_with _ _ _ _ σ hs), ?_⟩; refine K24 _ ?_; simp (disch := omega) only [go_sem]; refine K20 _ ?_; clear K24 K23 K22 K21 K20; refine pwx_sdH Tryz.mixed 1 [] (by rfl) [] [(1, 0), (4, 1), (5, 2), (6, 3), (9, 6), (68, 1), (69, 1), (70, 0), (76, 1)] (by kernel_rfl) (by kernel_rfl) (by simp) (by simp [HomeAt, St.pad]) fun _ K25 => ?_; refine rgnX_take 5 fun _ K26 => ?_; simp (disch := omega) only [go_sem]; refine ⟨_, c_filter_FromRat _ (by omega), ?_⟩; refine K26 _ ?_; refine rgnX_take 3 fun _ K27 => ?_; simp (disch := omega) only [go_sem]; refine ⟨_, _, _, _, _, _, ⟨rfl, rfl⟩, rfl, retW_of_M (fun σ hs => w_known_with _ _ _ _ σ hs), ?_⟩; refine K27 _ ?_; refine rgnX_take 4 fun _ K28 => ?_; simp (disch := omega) only [go_sem]; refine ⟨_, c_filter_Mul _ _ (by first | exact frF_bd _ | exact sqF_bd (frF_bd _) | exact muF_bd _ _) (by first | exact frF_bd _ | exact sqF_bd (frF_bd _) | exact muF_bd _ _), ?_⟩; refine K28 _ ?_; refine rgnX_take 3 fun _ K29 => ?_; simp (disch := omega) only [go_sem]; refine ⟨_, _, _, _, _, _, ⟨rfl, rfl⟩, rfl, retW_of_M (fun σ hs => w_known_with _ _ _ _ σ hs), ?_⟩; refine K29 _ ?_; refine rgnX_take 1 fun _ K30 => ?_; simp (disch := omega) only [go_sem]; refine ⟨_, c_filter_Mul _ _ (by first | exact frF_bd _ | exact sqF_bd (frF_bd _) | exact muF_bd _ _) (by first | exact frF_bd _ | exact sqF_bd (frF_bd _) | exact muF_bd _ _), ?_⟩; refine K30 _ ?_; refine rgnX_take 3 fun _ K31 => ?_; simp (disch := omega) only [go_sem]; refine ⟨_, _, _, _, _, _, ⟨rfl, rfl⟩, rfl, retW_of_M (fun σ hs => w_known_with _ _ _ _ σ hs), ?_⟩; refine K31 _ ?_; simp (disch := omega) only [go_sem]; refine K25 _ ?_; clear K31 K30 K29 K28 K27 K26 K25; refine pwp_seq ?_; refine pwx_sr 0 [] (by rfl) fun _ K32 => ?_; simp (disch := omega) only [go_sem]; refine K32 _ ?_; clear K32; refine pwp_cond (b := _) (by rfl) (fun hb1 => ?_) (fun hb1 => ?_)
    · first | replace hb1 := of_decide_eq_true hb1 | skip
      refine pwx_sr 0 [] (by rfl) fun _ K33 => ?_; simp (disch := omega) only [go_sem]; refine K33 _ ?_; clear K33; refine pwp_ret ?_; refine r_then ?_; refine ⟨Or.inr rfl, ?_⟩; simp (disch := omega) only [go_sem]
      rw [quG_2 hb0 hb1]; exact ⟨rfl, rfl⟩
    · first | replace hb1 := of_decide_eq_false hb1 | skip
      refine pwp_skip ?_; refine n_then ?_; refine pwx_sdH Tryz.mixed 1 [] (by rfl) [] [(1, 0), (4, 1), (7, 4), (8, 5), (9, 6), (10, 7), (92, 1), (93, 1), (94, 1), (95, 0), (106, 1)] (by kernel_rfl) (by kernel_rfl) (by simp) (by simp [HomeAt, St.pad]) fun _ K34 => ?_; refine rgnX_take 6 fun _ K35 => ?_; simp (disch := omega) only [go_sem]; refine ⟨_, c_filter_FromRat _ (by omega), ?_⟩; refine K35 _ ?_; refine rgnX_take 3 fun _ K36 => ?_; simp (disch := omega) only [go_sem]; refine ⟨_, _, _, _, _, _, ⟨rfl, rfl⟩, rfl, retW_of_M (fun σ hs => w_known_with _ _ _ _ σ hs), ?_⟩; refine K36 _ ?_; refine rgnX_take 2 fun _ K37 => ?_; simp (disch := omega) only [go_sem]; refine ⟨_, c_filter_Add _ _ (by first | exact frF_bd _ | exact muF_bd _ _ | exact adF_bd (frF_bd _) (muF_bd _ _)) (by first | exact frF_bd _ | exact muF_bd _ _ | exact adF_bd (muF_bd _ _) (muF_bd _ _)), ?_⟩; refine K37 _ ?_; refine rgnX_take 3 fun _ K38 => ?_; simp (disch := omega) only [go_sem]; refine ⟨_, _, _, _, _, _, ⟨rfl, rfl⟩, rfl, retW_of_M (fun σ hs => w_known_with _ _ _ _ σ hs), ?_⟩; refine K38 _ ?_; refine rgnX_take 4 fun _ K39 => ?_; simp (disch := omega) only [go_sem]; refine ⟨_, c_filter_Add _ _ (by first | exact frF_bd _ | exact muF_bd _ _ | exact adF_bd (frF_bd _) (muF_bd _ _)) (by first | exact frF_bd _ | exact muF_bd _ _ | exact adF_bd (muF_bd _ _) (muF_bd _ _)), ?_⟩; refine K39 _ ?_; refine rgnX_take 3 fun _ K40 => ?_; simp (disch := omega) only [go_sem]; refine ⟨_, _, _, _, _, _, ⟨rfl, rfl⟩, rfl, retW_of_M (fun σ hs => w_known_with _ _ _ _ σ hs), ?_⟩; refine K40 _ ?_; refine rgnX_take 1 fun _ K41 => ?_; simp (disch := omega) only [go_sem]; refine ⟨_, c_filter_Add _ _ (by first | exact frF_bd _ | exact muF_bd _ _ | exact adF_bd (frF_bd _) (muF_bd _ _)) (by first | exact frF_bd _ | exact muF_bd _ _ | exact adF_bd (muF_bd _ _) (muF_bd _ _)), ?_⟩; refine K41 _ ?_; refine rgnX_take 3 fun _ K42 => ?_; simp (disch := omega) only [go_sem]; refine ⟨_, _, _, _, _, _, ⟨rfl, rfl⟩, rfl, retW_of_M (fun σ hs => w_known_with _ _ _ _ σ hs), ?_⟩; refine K42 _ ?_; simp (disch := omega) only [go_sem]; refine K34 _ ?_; clear K42 K41 K40 K39 K38 K37 K36 K35 K34; refine pwp_seq ?_; refine pwx_sr 0 [] (by rfl) fun _ K43 => ?_; simp (disch := omega) only [go_sem]; refine K43 _ ?_; clear K43; refine pwp_cond (b := _) (by rfl) (fun hb2 => ?_) (fun hb2 => ?_)
      · first | replace hb2 := of_decide_eq_true hb2 | skip
        refine pwx_sr 0 [] (by rfl) fun _ K44 => ?_; simp (disch := omega) only [go_sem]; refine K44 _ ?_; clear K44; refine pwp_ret ?_; refine r_then ?_; refine ⟨Or.inr rfl, ?_⟩; simp (disch := omega) only [go_sem]
        rw [quG_3 (A := A) hb1 hb2]; exact ⟨rfl, rfl⟩
      · first | replace hb2 := of_decide_eq_false hb2 | skip
        refine pwp_skip ?_; refine n_then ?_; refine pwx_sr 0 [] (by rfl) fun _ K45 => ?_; refine rgnX_take 2 fun _ K46 => ?_; simp (disch := omega) only [go_sem]; refine ⟨_, c_filter_Sign _, ?_⟩; refine K46 _ ?_; simp (disch := omega) only [go_sem]; refine K45 _ ?_; clear K46 K45; refine pwp_ret ?_; refine ⟨Or.inr rfl, ?_⟩; simp (disch := omega) only [go_sem]
        rw [quG_4 (A := A) hb0 hb1 hb2]; exact ⟨rfl, rfl⟩

end Go.Proofs.YtdojhoegildiaaaGreat

namespace Go.PL
open Go.RL
theorem sgnQ_cases (q : Rat) : sgnQ q = 1 ∨ sgnQ q = -1 ∨ sgnQ q = 0 := by
  unfold sgnQ; repeat' split
  all_goals simp
theorem sgnQ_bd (q : Rat) : -1 ≤ sgnQ q ∧ sgnQ q ≤ 1 := by rcases sgnQ_cases q with h | h | h <;> omega
theorem mul_bd {x y : Int} (hx : -1 ≤ x ∧ x ≤ 1) (hy : -1 ≤ y ∧ y ≤ 1) : -1 ≤ x * y ∧ x * y ≤ 1 := by
  obtain ⟨a, b⟩ := hx; obtain ⟨c, d⟩ := hy
  have : x = -1 ∨ x = 0 ∨ x = 1 := by omega
  rcases this with rfl | rfl | rfl <;> omega
theorem cmpQ_bd (p q : Rat) : -1 ≤ cmpQ p q ∧ cmpQ p q ≤ 1 := sgnQ_bd _
variable {a b m : Rat}
theorem two_bd (a b m : Rat) : -1 ≤ two a b m ∧ two a b m ≤ 1 := by
  unfold two
  simp only
  have h1 := sgnQ_bd a
  have h2 := mul_bd (sgnQ_bd b) (sgnQ_bd m)
  have h3 := mul_bd (sgnQ_bd a) (cmpQ_bd (a * a) (b * b * m))
  split
  · exact h2
  · split
    · exact h1
    · exact h3
theorem two_1 (h : sgnQ b * sgnQ m = 0) : two a b m = sgnQ a := by
  unfold two; simp only [h]
  split
  · rename_i h'; exact h'.symm
  · simp
theorem two_2 (h : sgnQ a = sgnQ b * sgnQ m) : two a b m = sgnQ a := by
  unfold two; simp only [← h]
  split
  · rfl
  · simp
theorem two_3 (h : sgnQ a = 0) : two a b m = sgnQ b * sgnQ m := if_pos h
theorem two_4 (h : ¬ sgnQ b * sgnQ m = 0) (h1 : ¬ sgnQ a = sgnQ b * sgnQ m) (h2 : ¬ sgnQ a = 0) : two a b m = sgnQ a * cmpQ (a * a) (b * b * m) := by
  unfold two; rw [if_neg h2, if_neg (by rintro (h' | h') <;> contradiction)]
def apF (i j : Iv) : Int × Bool := if i.ok = false ∨ j.ok = false then (0, false) else if i.hi < j.lo then (-1, true) else if j.hi < i.lo then (1, true) else (0, false)
variable {i j : Iv}
theorem apF_1 (h : i.ok = false ∨ j.ok = false) : apF i j = (0, false) := if_pos h
theorem apF_2 (h : i.ok = true) (h' : j.ok = true) (h2 : i.hi < j.lo) : apF i j = (-1, true) := by unfold apF; rw [if_neg (by rw [h, h']; simp), if_pos h2]
theorem apF_3 (h : i.ok = true) (h' : j.ok = true) (h2 : ¬ i.hi < j.lo) (h3 : j.hi < i.lo) : apF i j = (1, true) := by unfold apF; rw [if_neg (by rw [h, h']; simp), if_neg h2, if_pos h3]
theorem apF_4 (h : i.ok = true) (h' : j.ok = true) (h2 : ¬ i.hi < j.lo) (h3 : ¬ j.hi < i.lo) : apF i j = (0, false) := by unfold apF; rw [if_neg (by rw [h, h']; simp), if_neg h2, if_neg h3]
theorem inI_sub {a b c d : Int} {x y : Re} (h : inI a b x) (h' : inI c d y) : inI (a + -d) (b + -c) (x - y) := inI_add h (inI_neg h')
theorem apF_ok {x y : Re} (hx : i.ok = true → inI i.lo i.hi x) (hy : j.ok = true → inI j.lo j.hi y) (h : (apF i j).2 = true) : (apF i j).1 = sgn (x - y) := by
  unfold apF at h ⊢
  split
  · rename_i c; rw [if_pos c] at h; cases h
  · rename_i c
    rw [if_neg c] at h
    simp only [not_or] at c
    have hs := inI_sub (hx (bfalse c.1)) (hy (bfalse c.2))
    split
    · exact (inI_negv hs (by omega)).symm
    · rename_i c2
      rw [if_neg c2] at h
      split
      · exact (inI_pos hs (by omega)).symm
      · rename_i c3; rw [if_neg c3] at h; cases h
def cmpR (a b c a' b' c' : Rat) : Int := quad (a - a') b (-b') 0 c c'
variable {a b c a' b' c' : Rat}
theorem v4_sub : v4 (a - a') b (-b') 0 c c' = v2 a b c - v2 a' b' c' := by
  apply Re.ext; intro n
  show (a - a') + b * (rt c).s n + (-b' + 0 * (rt c).s n) * (rt c').s n = (a + b * (rt c).s n) + -(a' + b' * (rt c').s n)
  grind
theorem cmpR_eq (hc : 0 ≤ c) (hc' : 0 ≤ c') : cmpR a b c a' b' c' = sgn (v2 a b c - v2 a' b' c') := by
  unfold cmpR; rw [quad_eq hc hc', v4_sub]
theorem cmpR_0 (hc : 0 ≤ c) (hc' : 0 ≤ c') : cmpR a 0 c a' 0 c' = cmpQ a a' := by
  rw [cmpR_eq hc hc', v2_b0, v2_b0, ← Re.of_sub, sgn_of]; rfl
theorem cmpR_ap (hc : 0 ≤ c) (hc' : 0 ≤ c') (h : (apF (rooF a b c) (rooF a' b' c')).2 = true) : (apF (rooF a b c) (rooF a' b' c')).1 = cmpR a b c a' b' c' := by
  rw [cmpR_eq hc hc']
  exact apF_ok rooF_ok rooF_ok h
theorem cmpR_same (hc : 0 ≤ c) : cmpR a b c a' b' c = two (a - a') (b - b') c := by
  rw [cmpR_eq hc hc, two_eq hc]
  congr 1
  apply Re.ext; intro n
  show (a + b * (rt c).s n) + -(a' + b' * (rt c).s n) = (a - a') + (b - b') * (rt c).s n
  grind
theorem two_r1 (h : sgnQ a = 0) : two a b m = sgnQ b * sgnQ m := if_pos h
variable {A B C D M N : Rat}
theorem quad_0 (h : M < 0 ∨ N < 0) : quad A B C D M N = 0 := if_pos h
theorem quad_q (h : ¬ M < 0) (h' : ¬ N < 0) (hq : (quF A B C D M N).2 = true) : (quF A B C D M N).1 = quad A B C D M N := quF_ok (Rat.not_lt.1 h) (Rat.not_lt.1 h') hq
theorem quad_1 (h : ¬ M < 0) (h' : ¬ N < 0) (h1 : two C D M * sgnQ N = 0) : quad A B C D M N = two A B M := by
  unfold quad
  rw [if_neg (by rintro (c | c) <;> contradiction)]
  simp only [h1]
  split
  · rename_i h'; exact h'.symm
  · simp
theorem quad_2 (h : ¬ M < 0) (h' : ¬ N < 0) (h1 : two A B M = two C D M * sgnQ N) : quad A B C D M N = two A B M := by
  unfold quad
  rw [if_neg (by rintro (c | c) <;> contradiction)]
  simp only [← h1]
  split
  · rfl
  · simp
theorem quad_3 (h : ¬ M < 0) (h' : ¬ N < 0) (h1 : two A B M = 0) : quad A B C D M N = two C D M * sgnQ N := by
  unfold quad
  rw [if_neg (by rintro (c | c) <;> contradiction), if_pos h1]
theorem quad_4 (h : ¬ M < 0) (h' : ¬ N < 0) (h1 : ¬ two C D M * sgnQ N = 0) (h2 : ¬ two A B M = two C D M * sgnQ N) (h3 : ¬ two A B M = 0) :
    quad A B C D M N = two A B M * two (A * A + M * (B * B) - N * (C * C + M * (D * D))) ((A * B - N * (C * D)) + (A * B - N * (C * D))) M := by
  unfold quad
  rw [if_neg (by rintro (c | c) <;> contradiction), if_neg h3, if_neg (by rintro (c | c) <;> contradiction), Rat.mul_comm M (B * B), Rat.mul_comm M (D * D)]
theorem quad_r4 (h : ¬ M < 0) (h' : ¬ N < 0) (h1 : ¬ two C D M * sgnQ N = 0) (h2 : ¬ two A B M = two C D M * sgnQ N) (h3 : ¬ two A B M = 0) :
    quad A B C D M N = two A B M * two (A * A + B * B * M - N * (C * C + D * D * M)) ((A * B - N * (C * D)) + (A * B - N * (C * D))) M := by
  unfold quad
  rw [if_neg (by rintro (c | c) <;> contradiction), if_neg h3, if_neg (by rintro (c | c) <;> contradiction)]
end Go.PL

set_option linter.unusedSimpArgs false
set_option linter.unusedVariables false
set_option maxRecDepth 20000
namespace Go.Proofs.YtdojhoegildiaaaGreat
open Go Go.PL Go.RL
set_option maxHeartbeats 4000000 in
theorem c_radical_plain (a b m : Rat) {k l o : Nat} [SzR a k] [SzR b l] [SzR m o] (hk : k + l + o ≤ 40000) :
    Ret Tryz.prog 40 [.a (ratC a), .a (ratC b), .a (ratC m)] (.e (.c (.int .i64 (two a b m)))) := by
  refine ret_of_body (md := {}) Tryz.func40 (by kernel_rfl) rfl ?_; simp only [Tryz.f40, go_sem, Nat.reduceAdd, Nat.reduceSub, List.reduceReplicate]; have h1 := mul_bd (sgnQ_bd b) (sgnQ_bd m); have h2 := mul_bd (sgnQ_bd a) (cmpQ_bd (a * a) (b * b * m)); refine pwx_sr 3 [] (by rfl) fun _ K1 => ?_; simp (disch := omega) only [go_sem]; refine K1 _ ?_; clear K1; refine pwx_sd Tryz.mixed 0 [] (by rfl) [] (by kernel_rfl) (by simp) fun _ K2 => ?_; refine rgnX_take 2 fun _ K3 => ?_; simp (disch := omega) only [go_sem]; refine ⟨_, c_rational_Sign _, ?_⟩; refine K3 _ ?_; refine rgnX_take 2 fun _ K4 => ?_; simp (disch := omega) only [go_sem]; refine ⟨_, c_rational_Sign _, ?_⟩; refine K4 _ ?_; refine rgnX_take 2 fun _ K5 => ?_; simp (disch := omega) only [go_sem]; refine ⟨_, c_rational_Sign _, ?_⟩; refine K5 _ ?_; simp (disch := omega) only [go_sem]; refine K2 _ ?_; clear K5 K4 K3 K2; refine pwp_seq ?_; refine pwp_block ?_; by_cases h0 : sgnQ b * sgnQ m = 0
  · refine pwx_sr 0 [some 17, some 18, some 19, some 20, some 21, some 22, some 23, some 16] (by rfl) fun _ K6 => ?_; simp (disch := omega) only [go_sem]; refine K6 _ ?_; clear K6; refine pwp_cond (b := true) (by rfl) (fun _ => ?_) (fun h => nomatch h); refine pwx_sr 0 [] (by rfl) fun _ K7 => ?_; simp (disch := omega) only [go_sem]; refine K7 _ ?_; clear K7; refine pwp_ret ?_; refine r_block ?_; refine r_then ?_; refine ⟨Or.inr rfl, ?_⟩; simp (disch := omega) only [go_sem]; rw [two_1 h0]
  · refine pwx_sr 0 [some 17, some 18, some 19, some 20, some 21, some 22, some 23, some 16] (by rfl) fun _ K8 => ?_; simp (disch := omega) only [go_sem]; refine K8 _ ?_; clear K8; refine pwp_cond (b := _) (by rfl) (fun hb1 => ?_) (fun hb1 => ?_)
    · first | replace hb1 := of_decide_eq_true hb1 | skip
      refine pwx_sr 0 [] (by rfl) fun _ K9 => ?_; simp (disch := omega) only [go_sem]; refine K9 _ ?_; clear K9; refine pwp_ret ?_; refine r_block ?_; refine r_then ?_; refine ⟨Or.inr rfl, ?_⟩; simp (disch := omega) only [go_sem]; rw [two_2 hb1]
    · first | replace hb1 := of_decide_eq_false hb1 | skip
      refine pwx_sr 0 [] (by rfl) fun _ K10 => ?_; simp (disch := omega) only [go_sem]; refine K10 _ ?_; clear K10; refine pwp_cond (b := _) (by rfl) (fun hb2 => ?_) (fun hb2 => ?_)
      · first | replace hb2 := of_decide_eq_true hb2 | skip
        refine pwx_sr 0 [] (by rfl) fun _ K11 => ?_; simp (disch := omega) only [go_sem]; refine K11 _ ?_; clear K11; refine pwp_ret ?_; refine r_block ?_; refine r_then ?_; refine ⟨Or.inr rfl, ?_⟩; simp (disch := omega) only [go_sem]; rw [two_3 (by rw [sgnQ_eqz]; exact hb2)]
      · first | replace hb2 := of_decide_eq_false hb2 | skip
        refine pwp_skip ?_; refine n_block ?_; refine n_then ?_; refine pwx_sd Tryz.mixed 0 [] (by rfl) [] (by kernel_rfl) (by simp) fun _ K12 => ?_; refine rgnX_take 4 fun _ K13 => ?_; simp (disch := omega) only [go_sem]; refine ⟨_, c_rational_Mul _ _ (by omega), ?_⟩; refine K13 _ ?_; refine rgnX_take 3 fun _ K14 => ?_; simp (disch := omega) only [go_sem]; refine ⟨_, c_rational_Mul _ _ (by omega), ?_⟩; refine K14 _ ?_; refine rgnX_take 2 fun _ K15 => ?_; simp (disch := omega) only [go_sem]; refine ⟨_, c_rational_Mul _ _ (by omega), ?_⟩; refine K15 _ ?_; refine rgnX_take 1 fun _ K16 => ?_; simp (disch := omega) only [go_sem]; refine ⟨_, c_rational_Cmp _ _ (by omega), ?_⟩; refine K16 _ ?_; simp (disch := omega) only [go_sem]; refine K12 _ ?_; clear K16 K15 K14 K13 K12; refine pwp_ret ?_; refine ⟨Or.inr rfl, ?_⟩; simp (disch := omega) only [go_sem]; rw [two_4 h0 hb1 (by rw [sgnQ_eqz]; exact hb2)]
set_option maxHeartbeats 4000000 in
theorem c_radical_copied (a : Rat) {k : Nat} [SzR a k] (hk : k ≤ 40000) :
    Ret Tryz.prog 95 [.a (ratC a)] (.e (.a (ratC a))) := by
  refine ret_of_body (md := {}) Tryz.func95 (by kernel_rfl) rfl ?_; simp only [Tryz.f95, go_sem, Nat.reduceAdd, Nat.reduceSub, List.reduceReplicate]; refine pwx_sr 2 [] (by rfl) fun _ K1 => ?_; simp (disch := omega) only [go_sem]; refine K1 _ ?_; clear K1; refine pwx_sr 0 [] (by rfl) fun _ K2 => ?_; refine rgnX_take 2 fun _ K3 => ?_; simp (disch := omega) only [go_sem]; refine ⟨_, c_rational_Neg _ (by omega), ?_⟩; refine K3 _ ?_; refine rgnX_take 1 fun _ K4 => ?_; simp (disch := omega) only [go_sem]; refine ⟨_, c_rational_Neg _ (by omega), ?_⟩; refine K4 _ ?_; simp (disch := omega) only [go_sem]; refine K2 _ ?_; clear K4 K3 K2; refine pwp_ret ?_; refine ⟨Or.inr rfl, ?_⟩; simp (disch := omega) only [go_sem]
  all_goals rw [Rat.neg_neg]
set_option maxHeartbeats 4000000 in
theorem c_radical_add (a b : Rat) {k l : Nat} [SzR a k] [SzR b l] (hkl : k + l ≤ 150000) :
    Ret Tryz.prog 41 [.a (ratC a), .a (ratC b)] (.e (.a (ratC (a + b)))) := by
  refine ret_of_body (md := {}) Tryz.func41 (by kernel_rfl) rfl ?_; simp only [Tryz.f41, go_sem, Nat.reduceAdd, Nat.reduceSub, List.reduceReplicate]; refine pwx_sr 3 [] (by rfl) fun _ K1 => ?_; simp (disch := omega) only [go_sem]; refine K1 _ ?_; clear K1; refine pwx_sr 0 [] (by rfl) fun _ K2 => ?_; refine rgnX_take 3 fun _ K3 => ?_; simp (disch := omega) only [go_sem]; refine ⟨_, c_rational_Add _ _ (by omega), ?_⟩; refine K3 _ ?_; simp (disch := omega) only [go_sem]; refine K2 _ ?_; clear K3 K2; refine pwp_ret ?_; refine ⟨Or.inr rfl, ?_⟩; simp (disch := omega) only [go_sem]
set_option maxHeartbeats 4000000 in
theorem c_radical_Sub (a b c a' b' c' : Rat) {k l m k' l' m' : Nat} [SzR a k] [SzR b l] [SzR c m] [SzR a' k'] [SzR b' l'] [SzR c' m'] (hk : k + l + m + k' + l' + m' ≤ 20000) :
    Ret Tryz.prog 53 [.a (ratC (a) ++ (ratC (b) ++ ratC (c))), .a (ratC (a') ++ (ratC (b') ++ ratC (c')))] (.e (.a (ratC (a - a') ++ (ratC b ++ (ratC (-b') ++ (ratC 0 ++ (ratC c ++ ratC c'))))))) := by
  refine ret_of_body (md := {}) Tryz.func53 (by kernel_rfl) rfl ?_; simp only [Tryz.f53, go_sem, Nat.reduceAdd, Nat.reduceSub, List.reduceReplicate]; refine pwx_sr 3 [] (by rfl) fun _ K1 => ?_; simp (disch := omega) only [go_sem]; refine K1 _ ?_; clear K1; refine pwx_sd Tryz.mixed 0 [] (by rfl) [] (by kernel_rfl) (by simp) fun _ K2 => ?_; refine rgnX_take 5 fun _ K3 => ?_; simp (disch := omega) only [go_sem]; refine ⟨_, c_rational_Sub _ _ (by omega), ?_⟩; refine K3 _ ?_; refine rgnX_take 3 fun _ K4 => ?_; simp (disch := omega) only [go_sem]; refine ⟨_, c_radical_copied _ (by omega), ?_⟩; refine K4 _ ?_; refine rgnX_take 3 fun _ K5 => ?_; simp (disch := omega) only [go_sem]; refine ⟨_, c_rational_Neg _ (by omega), ?_⟩; refine K5 _ ?_; refine rgnX_take 1 fun _ K6 => ?_; simp (disch := omega) only [go_sem]; refine ⟨_, c_rational_FromInt64 _ (by omega) (by omega), ?_⟩; refine K6 _ ?_; refine rgnX_take 3 fun _ K7 => ?_; simp (disch := omega) only [go_sem]; refine ⟨_, c_radical_copied _ (by omega), ?_⟩; refine K7 _ ?_; refine rgnX_take 3 fun _ K8 => ?_; simp (disch := omega) only [go_sem]; refine ⟨_, c_radical_copied _ (by omega), ?_⟩; refine K8 _ ?_; simp (disch := omega) only [go_sem]; refine K2 _ ?_; clear K8 K7 K6 K5 K4 K3 K2; refine pwp_ret ?_; refine ⟨Or.inr rfl, ?_⟩; simp (disch := omega) only [go_sem]
  all_goals rfl

end Go.Proofs.YtdojhoegildiaaaGreat

set_option linter.unusedSimpArgs false
set_option linter.unusedVariables false
set_option maxRecDepth 20000
namespace Go.Proofs.YtdojhoegildiaaaGreat
open Go Go.PL Go.RL
set_option maxHeartbeats 4000000 in
theorem c_radical_apart (a b c a' b' c' : Rat) {k l m k' l' m' : Nat} [SzR a k] [SzR b l] [SzR c m] [SzR a' k'] [SzR b' l'] [SzR c' m'] (hk : k + l + m + k' + l' + m' ≤ 20000) :
    Ret Tryz.prog 52 [.a (ratC (a) ++ (ratC (b) ++ ratC (c))), .a (ratC (a') ++ (ratC (b') ++ ratC (c')))] (.t [.c (.int .i64 (apF (rooF a b c) (rooF a' b' c')).1), .c (.bool (apF (rooF a b c) (rooF a' b' c')).2)]) := by
  refine ret_of_body (md := {}) Tryz.func52 (by kernel_rfl) rfl ?_; simp only [Tryz.f52, go_sem, Nat.reduceAdd, Nat.reduceSub, List.reduceReplicate]; refine pwx_sr 2 [] (by rfl) fun _ K1 => ?_; simp (disch := omega) only [go_sem]; refine K1 _ ?_; clear K1; refine pwx_sr 1 [] (by rfl) fun _ K2 => ?_; refine rgnX_take 2 fun _ K3 => ?_; simp (disch := omega) only [go_sem]; refine ⟨_, c_filter_Root _ _ _ (by omega), ?_⟩; refine K3 _ ?_; simp (disch := omega) only [go_sem]; refine K2 _ ?_; clear K3 K2; refine pwx_sr 1 [] (by rfl) fun _ K4 => ?_; refine rgnX_take 2 fun _ K5 => ?_; simp (disch := omega) only [go_sem]; refine ⟨_, c_filter_Root _ _ _ (by omega), ?_⟩; refine K5 _ ?_; simp (disch := omega) only [go_sem]; refine K4 _ ?_; clear K5 K4; refine pwp_seq ?_; refine pwp_block ?_
  rcases h1 : (rooF a b c).ok with _ | _ <;> rcases h2 : (rooF a' b' c').ok with _ | _
  · refine pwx_sr 0 [some 21, some 22, some 23, some 24, some 25, some 26, some 20] (by rfl) fun _ K6 => ?_; simp (disch := omega) only [go_sem, h1, h2]; refine K6 _ ?_; clear K6; refine pwp_cond (b := true) (by rfl) (fun _ => ?_) (fun h => nomatch h); refine pwx_sr 0 [] (by rfl) fun _ K7 => ?_; simp (disch := omega) only [go_sem]; refine K7 _ ?_; clear K7; refine pwp_ret ?_; refine r_block ?_; refine r_then ?_; refine ⟨Or.inr rfl, ?_⟩; simp (disch := omega) only [go_sem]
    rw [apF_1 (by simp [h1])]; exact ⟨rfl, rfl⟩
  · refine pwx_sr 0 [some 21, some 22, some 23, some 24, some 25, some 26, some 20] (by rfl) fun _ K8 => ?_; simp (disch := omega) only [go_sem, h1, h2]; refine K8 _ ?_; clear K8; refine pwp_cond (b := true) (by rfl) (fun _ => ?_) (fun h => nomatch h); refine pwx_sr 0 [] (by rfl) fun _ K9 => ?_; simp (disch := omega) only [go_sem]; refine K9 _ ?_; clear K9; refine pwp_ret ?_; refine r_block ?_; refine r_then ?_; refine ⟨Or.inr rfl, ?_⟩; simp (disch := omega) only [go_sem]
    rw [apF_1 (by simp [h1])]; exact ⟨rfl, rfl⟩
  · refine pwx_sr 0 [some 21, some 22, some 23, some 24, some 25, some 26, some 20] (by rfl) fun _ K10 => ?_; simp (disch := omega) only [go_sem, h1, h2]; refine K10 _ ?_; clear K10; refine pwp_cond (b := true) (by rfl) (fun _ => ?_) (fun h => nomatch h); refine pwx_sr 0 [] (by rfl) fun _ K11 => ?_; simp (disch := omega) only [go_sem]; refine K11 _ ?_; clear K11; refine pwp_ret ?_; refine r_block ?_; refine r_then ?_; refine ⟨Or.inr rfl, ?_⟩; simp (disch := omega) only [go_sem]
    rw [apF_1 (by simp [h2])]; exact ⟨rfl, rfl⟩
  · refine pwx_sr 0 [some 21, some 22, some 23, some 24, some 25, some 26, some 20] (by rfl) fun _ K12 => ?_; simp (disch := omega) only [go_sem, h1, h2]; refine K12 _ ?_; clear K12; refine pwp_cond (b := false) (by rfl) (fun h => nomatch h) (fun _ => ?_); refine pwx_sr 0 [] (by rfl) fun _ K13 => ?_; simp (disch := omega) only [go_sem]; refine K13 _ ?_; clear K13; refine pwp_cond (b := _) (by rfl) (fun hb4 => ?_) (fun hb4 => ?_)
    · first | replace hb4 := of_decide_eq_true hb4 | skip
      refine pwx_sr 0 [] (by rfl) fun _ K14 => ?_; simp (disch := omega) only [go_sem]; refine K14 _ ?_; clear K14; refine pwp_ret ?_; refine r_block ?_; refine r_then ?_; refine ⟨Or.inr rfl, ?_⟩; simp (disch := omega) only [go_sem]
      rw [apF_2 h1 h2 (by assumption)]; exact ⟨rfl, rfl⟩
    · first | replace hb4 := of_decide_eq_false hb4 | skip
      refine pwx_sr 0 [] (by rfl) fun _ K15 => ?_; simp (disch := omega) only [go_sem]; refine K15 _ ?_; clear K15; refine pwp_cond (b := _) (by rfl) (fun hb5 => ?_) (fun hb5 => ?_)
      · first | replace hb5 := of_decide_eq_true hb5 | skip
        refine pwx_sr 0 [] (by rfl) fun _ K16 => ?_; simp (disch := omega) only [go_sem]; refine K16 _ ?_; clear K16; refine pwp_ret ?_; refine r_block ?_; refine r_then ?_; refine ⟨Or.inr rfl, ?_⟩; simp (disch := omega) only [go_sem]
        rw [apF_3 h1 h2 (by assumption) (by assumption)]; exact ⟨rfl, rfl⟩
      · first | replace hb5 := of_decide_eq_false hb5 | skip
        refine pwp_skip ?_; refine n_block ?_; refine n_then ?_; refine pwx_sr 0 [] (by rfl) fun _ K17 => ?_; simp (disch := omega) only [go_sem]; refine K17 _ ?_; clear K17; refine pwp_ret ?_; refine ⟨Or.inr rfl, ?_⟩; simp (disch := omega) only [go_sem]
        rw [apF_4 h1 h2 (by assumption) (by assumption)]; exact ⟨rfl, rfl⟩
set_option maxHeartbeats 4000000 in
theorem c_radical_Sign (A B C D M N : Rat) {kA kB kC kD kM kN : Nat} [SzR A kA] [SzR B kB] [SzR C kC] [SzR D kD] [SzR M kM] [SzR N kN] (hk : kA + kB + kC + kD + kM + kN ≤ 5000) :
    Ret Tryz.prog 12 [.a (ratC A ++ (ratC B ++ (ratC C ++ (ratC D ++ (ratC M ++ ratC N)))))] (.e (.c (.int .i64 (quad A B C D M N)))) := by
  refine ret_of_body (md := {}) Tryz.func12 (by kernel_rfl) rfl ?_; simp only [Tryz.f12, go_sem, Nat.reduceAdd, Nat.reduceSub, List.reduceReplicate]; have b1 := two_bd A B M; have b2 := two_bd C D M; have b3 := mul_bd b2 (sgnQ_bd N); have b4 := mul_bd b1 (two_bd (A * A + M * (B * B) - N * (C * C + M * (D * D))) ((A * B - N * (C * D)) + (A * B - N * (C * D))) M); refine pwx_sr 1 [] (by rfl) fun _ K1 => ?_; simp (disch := omega) only [go_sem]; refine K1 _ ?_; clear K1; refine pwp_seq ?_; by_cases h0 : M < 0
  · refine pwx_sr 0 [some 11, some 12, some 13, some 14, some 15, some 16, some 17, some 18, some 19, some 20] (by rfl) fun _ K2 => ?_; refine rgnX_take 3 fun _ K3 => ?_; simp (disch := omega) only [go_sem]; refine ⟨_, c_rational_Sign _, ?_⟩; refine K3 _ ?_; refine rgnX_take 5 fun _ K4 => ?_; simp (disch := omega) only [go_sem]
    first | refine ⟨_, c_rational_Sign _, ?_⟩ | skip
    refine K4 _ ?_; simp (disch := omega) only [go_sem]; refine K2 _ ?_; clear K4 K3 K2; refine pwp_cond (b := true) (by rfl) (fun _ => ?_) (fun h => nomatch h); refine pwx_sr 0 [] (by rfl) fun _ K5 => ?_; simp (disch := omega) only [go_sem]; refine K5 _ ?_; clear K5; refine pwp_ret ?_; refine r_then ?_; refine ⟨Or.inr rfl, ?_⟩; simp (disch := omega) only [go_sem]; rw [quad_0 (.inl h0)]
  · refine pwx_sr 0 [some 11, some 12, some 13, some 14, some 15, some 16, some 17, some 18, some 19, some 20] (by rfl) fun _ K6 => ?_; refine rgnX_take 3 fun _ K7 => ?_; simp (disch := omega) only [go_sem]; refine ⟨_, c_rational_Sign _, ?_⟩; refine K7 _ ?_; refine rgnX_take 5 fun _ K8 => ?_; simp (disch := omega) only [go_sem]
    first | refine ⟨_, c_rational_Sign _, ?_⟩ | skip
    refine K8 _ ?_; simp (disch := omega) only [go_sem]; refine K6 _ ?_; clear K8 K7 K6; refine pwp_cond (b := _) (by rfl) (fun hb1 => ?_) (fun hb1 => ?_)
    · first | replace hb1 := of_decide_eq_true hb1 | skip
      refine pwx_sr 0 [] (by rfl) fun _ K9 => ?_; simp (disch := omega) only [go_sem]; refine K9 _ ?_; clear K9; refine pwp_ret ?_; refine r_then ?_; refine ⟨Or.inr rfl, ?_⟩; simp (disch := omega) only [go_sem]; rw [quad_0 (.inr hb1)]
    · first | replace hb1 := of_decide_eq_false hb1 | skip
      refine pwp_skip ?_; refine n_then ?_; refine pwp_seq ?_; refine pwx_sr 0 [] (by rfl) fun _ K10 => ?_; refine rgnX_take 2 fun _ K11 => ?_; simp (disch := omega) only [go_sem]; refine ⟨_, c_radical_quick _ _ _ _ _ _ (by omega), ?_⟩; refine K11 _ ?_; simp (disch := omega) only [go_sem]; refine K10 _ ?_; clear K11 K10; refine pwx_sr 0 [] (by rfl) fun _ K12 => ?_; simp (disch := omega) only [go_sem]; refine K12 _ ?_; clear K12; refine pwp_cond (b := _) (by rfl) (fun hb2 => ?_) (fun hb2 => ?_)
      · first | replace hb2 := of_decide_eq_true hb2 | skip
        refine pwx_sr 0 [] (by rfl) fun _ K13 => ?_; simp (disch := omega) only [go_sem]; refine K13 _ ?_; clear K13; refine pwp_ret ?_; refine r_then ?_; refine ⟨Or.inr rfl, ?_⟩; simp (disch := omega) only [go_sem]; rw [quad_q h0 hb1 hb2]
      · first | replace hb2 := of_decide_eq_false hb2 | skip
        refine pwp_skip ?_; refine n_then ?_; refine pwx_sd Tryz.mixed 0 [] (by rfl) [] (by kernel_rfl) (by simp) fun _ K14 => ?_; refine rgnX_take 7 fun _ K15 => ?_; simp (disch := omega) only [go_sem]; refine ⟨_, c_radical_plain _ _ _ (by omega), ?_⟩; refine K15 _ ?_; refine rgnX_take 7 fun _ K16 => ?_; simp (disch := omega) only [go_sem]; refine ⟨_, c_radical_plain _ _ _ (by omega), ?_⟩; refine K16 _ ?_; refine rgnX_take 3 fun _ K17 => ?_; simp (disch := omega) only [go_sem]; refine ⟨_, c_rational_Sign _, ?_⟩; refine K17 _ ?_; simp (disch := omega) only [go_sem]; refine K14 _ ?_; clear K17 K16 K15 K14; refine pwp_seq ?_; refine pwp_block ?_; by_cases h1 : two C D M * sgnQ N = 0
        · refine pwx_sr 0 [some 47, some 48, some 49, some 50, some 51, some 52, some 53, some 46] (by rfl) fun _ K18 => ?_; simp (disch := omega) only [go_sem]; refine K18 _ ?_; clear K18; refine pwp_cond (b := true) (by rfl) (fun _ => ?_) (fun h => nomatch h); refine pwx_sr 0 [] (by rfl) fun _ K19 => ?_; simp (disch := omega) only [go_sem]; refine K19 _ ?_; clear K19; refine pwp_ret ?_; refine r_block ?_; refine r_then ?_; refine ⟨Or.inr rfl, ?_⟩; simp (disch := omega) only [go_sem]; rw [quad_1 h0 hb1 h1]
        · refine pwx_sr 0 [some 47, some 48, some 49, some 50, some 51, some 52, some 53, some 46] (by rfl) fun _ K20 => ?_; simp (disch := omega) only [go_sem]; refine K20 _ ?_; clear K20; refine pwp_cond (b := _) (by rfl) (fun hb4 => ?_) (fun hb4 => ?_)
          · first | replace hb4 := of_decide_eq_true hb4 | skip
            refine pwx_sr 0 [] (by rfl) fun _ K21 => ?_; simp (disch := omega) only [go_sem]; refine K21 _ ?_; clear K21; refine pwp_ret ?_; refine r_block ?_; refine r_then ?_; refine ⟨Or.inr rfl, ?_⟩; simp (disch := omega) only [go_sem]; rw [quad_2 h0 hb1 (by assumption)]
          · first | replace hb4 := of_decide_eq_false hb4 | skip
            refine pwx_sr 0 [] (by rfl) fun _ K22 => ?_; simp (disch := omega) only [go_sem]; refine K22 _ ?_; clear K22; refine pwp_cond (b := _) (by rfl) (fun hb5 => ?_) (fun hb5 => ?_)
            · first | replace hb5 := of_decide_eq_true hb5 | skip
              refine pwx_sr 0 [] (by rfl) fun _ K23 => ?_; simp (disch := omega) only [go_sem]; refine K23 _ ?_; clear K23; refine pwp_ret ?_; refine r_block ?_; refine r_then ?_; refine ⟨Or.inr rfl, ?_⟩; simp (disch := omega) only [go_sem]; rw [quad_3 h0 hb1 (by assumption)]
            · first | replace hb5 := of_decide_eq_false hb5 | skip
              refine pwp_skip ?_; refine n_block ?_; refine n_then ?_; refine pwx_sr 0 [] (by rfl) fun _ K24 => ?_; simp (disch := omega) only [go_sem]; refine K24 _ ?_; clear K24; refine pwx_sr 0 [] (by rfl) fun _ K25 => ?_; simp (disch := omega) only [go_sem]; refine K25 _ ?_; clear K25; refine pwx_sd Tryz.mixed 1 [] (by rfl) [] (by kernel_rfl) (by simp) fun _ K26 => ?_; refine rgnX_take 7 fun _ K27 => ?_; simp (disch := omega) only [go_sem]; refine ⟨_, c_rational_Mul _ _ (by omega), ?_⟩; refine K27 _ ?_; refine rgnX_take 9 fun _ K28 => ?_; simp (disch := omega) only [go_sem]; refine ⟨_, c_rational_Mul _ _ (by omega), ?_⟩; refine K28 _ ?_; refine rgnX_take 1 fun _ K29 => ?_; simp (disch := omega) only [go_sem]; refine ⟨_, c_rational_Mul _ _ (by omega), ?_⟩; refine K29 _ ?_; refine rgnX_take 1 fun _ K30 => ?_; simp (disch := omega) only [go_sem]; refine ⟨_, c_radical_add _ _ (by omega), ?_⟩; refine K30 _ ?_; refine rgnX_take 10 fun _ K31 => ?_; simp (disch := omega) only [go_sem]; refine ⟨_, c_rational_Mul _ _ (by omega), ?_⟩; refine K31 _ ?_; refine rgnX_take 9 fun _ K32 => ?_; simp (disch := omega) only [go_sem]; refine ⟨_, c_rational_Mul _ _ (by omega), ?_⟩; refine K32 _ ?_; refine rgnX_take 1 fun _ K33 => ?_; simp (disch := omega) only [go_sem]; refine ⟨_, c_rational_Mul _ _ (by omega), ?_⟩; refine K33 _ ?_; refine rgnX_take 1 fun _ K34 => ?_; simp (disch := omega) only [go_sem]; refine ⟨_, c_radical_add _ _ (by omega), ?_⟩; refine K34 _ ?_; refine rgnX_take 1 fun _ K35 => ?_; simp (disch := omega) only [go_sem]; refine ⟨_, c_rational_Mul _ _ (by omega), ?_⟩; refine K35 _ ?_; refine rgnX_take 1 fun _ K36 => ?_; simp (disch := omega) only [go_sem]; refine ⟨_, c_rational_Sub _ _ (by omega), ?_⟩; refine K36 _ ?_; simp (disch := omega) only [go_sem]; refine K26 _ ?_; clear K36 K35 K34 K33 K32 K31 K30 K29 K28 K27 K26; refine pwx_sd Tryz.mixed 1 [] (by rfl) [] (by kernel_rfl) (by simp) fun _ K37 => ?_; refine rgnX_take 6 fun _ K38 => ?_; simp (disch := omega) only [go_sem]; refine ⟨_, c_rational_Mul _ _ (by omega), ?_⟩; refine K38 _ ?_; refine rgnX_take 9 fun _ K39 => ?_; simp (disch := omega) only [go_sem]; refine ⟨_, c_rational_Mul _ _ (by omega), ?_⟩; refine K39 _ ?_; refine rgnX_take 1 fun _ K40 => ?_; simp (disch := omega) only [go_sem]; refine ⟨_, c_rational_Mul _ _ (by omega), ?_⟩; refine K40 _ ?_; refine rgnX_take 1 fun _ K41 => ?_; simp (disch := omega) only [go_sem]; refine ⟨_, c_rational_Sub _ _ (by omega), ?_⟩; refine K41 _ ?_; simp (disch := omega) only [go_sem]; refine K37 _ ?_; clear K41 K40 K39 K38 K37; refine pwx_sd Tryz.mixed 0 [] (by rfl) [] (by kernel_rfl) (by simp) fun _ K42 => ?_; refine rgnX_take 6 fun _ K43 => ?_; simp (disch := omega) only [go_sem]; refine ⟨_, c_radical_add _ _ (by omega), ?_⟩; refine K43 _ ?_; refine rgnX_take 3 fun _ K44 => ?_; simp (disch := omega) only [go_sem]; refine ⟨_, c_radical_plain _ _ _ (by omega), ?_⟩; refine K44 _ ?_; simp (disch := omega) only [go_sem]; refine K42 _ ?_; clear K44 K43 K42; refine pwp_ret ?_; refine ⟨Or.inr rfl, ?_⟩; simp (disch := omega) only [go_sem]; rw [quad_4 h0 hb1 h1 (by assumption) (by assumption)]
set_option maxHeartbeats 4000000 in
theorem c_radical_Cmp (a b c a' b' c' : Rat) {k l m k' l' m' : Nat} [SzR a k] [SzR b l] [SzR c m] [SzR a' k'] [SzR b' l'] [SzR c' m'] (hk : k + l + m + k' + l' + m' ≤ 2000) (hc : 0 ≤ c) (hc' : 0 ≤ c') :
    Ret Tryz.prog 18 [.a (ratC (a) ++ (ratC (b) ++ ratC (c))), .a (ratC (a') ++ (ratC (b') ++ ratC (c')))] (.e (.c (.int .i64 (cmpR a b c a' b' c')))) := by
  refine ret_of_body (md := {}) Tryz.func18 (by kernel_rfl) rfl ?_; simp only [Tryz.f18, go_sem, Nat.reduceAdd, Nat.reduceSub, List.reduceReplicate]; refine pwx_sr 2 [] (by rfl) fun _ K1 => ?_; simp (disch := omega) only [go_sem]; refine K1 _ ?_; clear K1; refine pwp_seq ?_; by_cases h0 : b = 0
  · refine pwx_sr 0 [some 7, some 8, some 9, some 10, some 11, some 12, some 13, some 14, some 15, some 16] (by rfl) fun _ K2 => ?_; refine rgnX_take 3 fun _ K3 => ?_; simp (disch := omega) only [go_sem]; refine ⟨_, c_rational_Sign _, ?_⟩; refine K3 _ ?_; refine rgnX_take 5 fun _ K4 => ?_; simp (disch := omega) only [go_sem]
    first | refine ⟨_, c_rational_Sign _, ?_⟩ | skip
    refine K4 _ ?_; simp (disch := omega) only [go_sem]; refine K2 _ ?_; clear K4 K3 K2; refine pwp_cond (b := _) (by rfl) (fun hb0 => ?_) (fun hb0 => ?_)
    · first | replace hb0 := of_decide_eq_true hb0 | skip
      refine pwx_sr 0 [] (by rfl) fun _ K5 => ?_; refine rgnX_take 5 fun _ K6 => ?_; simp (disch := omega) only [go_sem]; refine ⟨_, c_rational_Cmp _ _ (by omega), ?_⟩; refine K6 _ ?_; simp (disch := omega) only [go_sem]; refine K5 _ ?_; clear K6 K5; refine pwp_ret ?_; refine r_then ?_; refine ⟨Or.inr rfl, ?_⟩; simp (disch := omega) only [go_sem]
      first | (subst h0; subst hb0; exact (cmpR_0 hc hc').symm) | (subst h0; subst hb0; exact cmpR_0 hc hc') | rfl | exact (cmpR_ap hc hc' (by assumption)).symm | (have e : c = c' := (by assumption); subst e; exact cmpR_same hc)
    · first | replace hb0 := of_decide_eq_false hb0 | skip
      refine pwp_skip ?_; refine n_then ?_; refine pwp_seq ?_; refine pwx_sr 0 [] (by rfl) fun _ K7 => ?_; refine rgnX_take 3 fun _ K8 => ?_; simp (disch := omega) only [go_sem]; refine ⟨_, c_radical_apart _ _ _ _ _ _ (by omega), ?_⟩; refine K8 _ ?_; simp (disch := omega) only [go_sem]; refine K7 _ ?_; clear K8 K7; refine pwx_sr 0 [] (by rfl) fun _ K9 => ?_; simp (disch := omega) only [go_sem]; refine K9 _ ?_; clear K9; refine pwp_cond (b := _) (by rfl) (fun hb1 => ?_) (fun hb1 => ?_)
      · first | replace hb1 := of_decide_eq_true hb1 | skip
        refine pwx_sr 0 [] (by rfl) fun _ K10 => ?_; simp (disch := omega) only [go_sem]; refine K10 _ ?_; clear K10; refine pwp_ret ?_; refine r_then ?_; refine ⟨Or.inr rfl, ?_⟩; simp (disch := omega) only [go_sem]
        first | (subst h0; subst hb0; exact (cmpR_0 hc hc').symm) | (subst h0; subst hb0; exact cmpR_0 hc hc') | rfl | exact (cmpR_ap hc hc' (by assumption)).symm | (have e : c = c' := (by assumption); subst e; exact cmpR_same hc)
      · first | replace hb1 := of_decide_eq_false hb1 | skip
        refine pwp_skip ?_; refine n_then ?_; refine pwp_seq ?_; refine pwx_sr 0 [] (by rfl) fun _ K11 => ?_; refine rgnX_take 5 fun _ K12 => ?_; simp (disch := omega) only [go_sem]; refine ⟨_, c_rational_Cmp _ _ (by omega), ?_⟩; refine K12 _ ?_; simp (disch := omega) only [go_sem]; refine K11 _ ?_; clear K12 K11; refine pwp_cond (b := _) (by rfl) (fun hb2 => ?_) (fun hb2 => ?_)
        · first | replace hb2 := of_decide_eq_true hb2 | skip
          refine pwx_sd Tryz.mixed 0 [] (by rfl) [] (by kernel_rfl) (by simp) fun _ K13 => ?_; refine rgnX_take 5 fun _ K14 => ?_; simp (disch := omega) only [go_sem]; refine ⟨_, c_rational_Sub _ _ (by omega), ?_⟩; refine K14 _ ?_; refine rgnX_take 5 fun _ K15 => ?_; simp (disch := omega) only [go_sem]; refine ⟨_, c_rational_Sub _ _ (by omega), ?_⟩; refine K15 _ ?_; refine rgnX_take 3 fun _ K16 => ?_; simp (disch := omega) only [go_sem]; refine ⟨_, c_radical_plain _ _ _ (by omega), ?_⟩; refine K16 _ ?_; simp (disch := omega) only [go_sem]; refine K13 _ ?_; clear K16 K15 K14 K13; refine pwp_ret ?_; refine r_then ?_; refine ⟨Or.inr rfl, ?_⟩; simp (disch := omega) only [go_sem]
          first | (subst h0; subst hb0; exact (cmpR_0 hc hc').symm) | (subst h0; subst hb0; exact cmpR_0 hc hc') | rfl | exact (cmpR_ap hc hc' (by assumption)).symm | (have e : c = c' := (by assumption); subst e; exact cmpR_same hc)
        · first | replace hb2 := of_decide_eq_false hb2 | skip
          refine pwp_skip ?_; refine n_then ?_; refine pwx_sr 0 [] (by rfl) fun _ K17 => ?_; refine rgnX_take 3 fun _ K18 => ?_; simp (disch := omega) only [go_sem]; refine ⟨_, c_radical_Sub _ _ _ _ _ _ (by omega), ?_⟩; refine K18 _ ?_; refine rgnX_take 1 fun _ K19 => ?_; simp (disch := omega) only [go_sem]; refine ⟨_, c_radical_Sign _ _ _ _ _ _ (by omega), ?_⟩; refine K19 _ ?_; simp (disch := omega) only [go_sem]; refine K17 _ ?_; clear K19 K18 K17; refine pwp_ret ?_; refine ⟨Or.inr rfl, ?_⟩; simp (disch := omega) only [go_sem]
          first | (subst h0; subst hb0; exact (cmpR_0 hc hc').symm) | (subst h0; subst hb0; exact cmpR_0 hc hc') | rfl | exact (cmpR_ap hc hc' (by assumption)).symm | (have e : c = c' := (by assumption); subst e; exact cmpR_same hc)
  · refine pwx_sr 0 [some 7, some 8, some 9, some 10, some 11, some 12, some 13, some 14, some 15, some 16] (by rfl) fun _ K20 => ?_; refine rgnX_take 3 fun _ K21 => ?_; simp (disch := omega) only [go_sem]; refine ⟨_, c_rational_Sign _, ?_⟩; refine K21 _ ?_; refine rgnX_take 5 fun _ K22 => ?_; simp (disch := omega) only [go_sem]
    first | refine ⟨_, c_rational_Sign _, ?_⟩ | skip
    refine K22 _ ?_; simp (disch := omega) only [go_sem]; refine K20 _ ?_; clear K22 K21 K20; refine pwp_cond (b := false) (by rfl) (fun h => nomatch h) (fun _ => ?_); refine pwp_skip ?_; refine n_then ?_; refine pwp_seq ?_; refine pwx_sr 0 [] (by rfl) fun _ K23 => ?_; refine rgnX_take 3 fun _ K24 => ?_; simp (disch := omega) only [go_sem]; refine ⟨_, c_radical_apart _ _ _ _ _ _ (by omega), ?_⟩; refine K24 _ ?_; simp (disch := omega) only [go_sem]; refine K23 _ ?_; clear K24 K23; refine pwx_sr 0 [] (by rfl) fun _ K25 => ?_; simp (disch := omega) only [go_sem]; refine K25 _ ?_; clear K25; refine pwp_cond (b := _) (by rfl) (fun hb4 => ?_) (fun hb4 => ?_)
    · first | replace hb4 := of_decide_eq_true hb4 | skip
      refine pwx_sr 0 [] (by rfl) fun _ K26 => ?_; simp (disch := omega) only [go_sem]; refine K26 _ ?_; clear K26; refine pwp_ret ?_; refine r_then ?_; refine ⟨Or.inr rfl, ?_⟩; simp (disch := omega) only [go_sem]
      first | (subst h0; subst hb0; exact (cmpR_0 hc hc').symm) | (subst h0; subst hb0; exact cmpR_0 hc hc') | rfl | exact (cmpR_ap hc hc' (by assumption)).symm | (have e : c = c' := (by assumption); subst e; exact cmpR_same hc)
    · first | replace hb4 := of_decide_eq_false hb4 | skip
      refine pwp_skip ?_; refine n_then ?_; refine pwp_seq ?_; refine pwx_sr 0 [] (by rfl) fun _ K27 => ?_; refine rgnX_take 5 fun _ K28 => ?_; simp (disch := omega) only [go_sem]; refine ⟨_, c_rational_Cmp _ _ (by omega), ?_⟩; refine K28 _ ?_; simp (disch := omega) only [go_sem]; refine K27 _ ?_; clear K28 K27; refine pwp_cond (b := _) (by rfl) (fun hb5 => ?_) (fun hb5 => ?_)
      · first | replace hb5 := of_decide_eq_true hb5 | skip
        refine pwx_sd Tryz.mixed 0 [] (by rfl) [] (by kernel_rfl) (by simp) fun _ K29 => ?_; refine rgnX_take 5 fun _ K30 => ?_; simp (disch := omega) only [go_sem]; refine ⟨_, c_rational_Sub _ _ (by omega), ?_⟩; refine K30 _ ?_; refine rgnX_take 5 fun _ K31 => ?_; simp (disch := omega) only [go_sem]; refine ⟨_, c_rational_Sub _ _ (by omega), ?_⟩; refine K31 _ ?_; refine rgnX_take 3 fun _ K32 => ?_; simp (disch := omega) only [go_sem]; refine ⟨_, c_radical_plain _ _ _ (by omega), ?_⟩; refine K32 _ ?_; simp (disch := omega) only [go_sem]; refine K29 _ ?_; clear K32 K31 K30 K29; refine pwp_ret ?_; refine r_then ?_; refine ⟨Or.inr rfl, ?_⟩; simp (disch := omega) only [go_sem]
        first | (subst h0; subst hb0; exact (cmpR_0 hc hc').symm) | (subst h0; subst hb0; exact cmpR_0 hc hc') | rfl | exact (cmpR_ap hc hc' (by assumption)).symm | (have e : c = c' := (by assumption); subst e; exact cmpR_same hc)
      · first | replace hb5 := of_decide_eq_false hb5 | skip
        refine pwp_skip ?_; refine n_then ?_; refine pwx_sr 0 [] (by rfl) fun _ K33 => ?_; refine rgnX_take 3 fun _ K34 => ?_; simp (disch := omega) only [go_sem]; refine ⟨_, c_radical_Sub _ _ _ _ _ _ (by omega), ?_⟩; refine K34 _ ?_; refine rgnX_take 1 fun _ K35 => ?_; simp (disch := omega) only [go_sem]; refine ⟨_, c_radical_Sign _ _ _ _ _ _ (by omega), ?_⟩; refine K35 _ ?_; simp (disch := omega) only [go_sem]; refine K33 _ ?_; clear K35 K34 K33; refine pwp_ret ?_; refine ⟨Or.inr rfl, ?_⟩; simp (disch := omega) only [go_sem]
        first | (subst h0; subst hb0; exact (cmpR_0 hc hc').symm) | (subst h0; subst hb0; exact cmpR_0 hc hc') | rfl | exact (cmpR_ap hc hc' (by assumption)).symm | (have e : c = c' := (by assumption); subst e; exact cmpR_same hc)

end Go.Proofs.YtdojhoegildiaaaGreat

set_option linter.unusedSimpArgs false
set_option linter.unusedVariables false
set_option maxRecDepth 20000
namespace Go.Proofs.YtdojhoegildiaaaGreat
open Go Go.PL Go.RL
set_option maxHeartbeats 4000000 in
theorem c_swarfref05_two (a b m : Rat) {k l o : Nat} [SzR a k] [SzR b l] [SzR m o] (hk : k + l + o ≤ 40000) :
    Ret Tryz.prog 45 [.a (ratC a), .a (ratC b), .a (ratC m)] (.e (.c (.int .i64 (two a b m)))) := by
  refine ret_of_body (md := {}) Tryz.func45 (by kernel_rfl) rfl ?_; simp only [Tryz.f45, go_sem, Nat.reduceAdd, Nat.reduceSub, List.reduceReplicate]; have h1 := mul_bd (sgnQ_bd b) (sgnQ_bd m); have h2 := mul_bd (sgnQ_bd a) (cmpQ_bd (a * a) (b * b * m)); refine pwx_sr 3 [] (by rfl) fun _ K1 => ?_; simp (disch := omega) only [go_sem]; refine K1 _ ?_; clear K1; refine pwx_sd Tryz.mixed 0 [] (by rfl) [] (by kernel_rfl) (by simp) fun _ K2 => ?_; refine rgnX_take 2 fun _ K3 => ?_; simp (disch := omega) only [go_sem]; refine ⟨_, c_swarfref02_Sign _, ?_⟩; refine K3 _ ?_; refine rgnX_take 2 fun _ K4 => ?_; simp (disch := omega) only [go_sem]; refine ⟨_, c_swarfref02_Sign _, ?_⟩; refine K4 _ ?_; refine rgnX_take 2 fun _ K5 => ?_; simp (disch := omega) only [go_sem]; refine ⟨_, c_swarfref02_Sign _, ?_⟩; refine K5 _ ?_; simp (disch := omega) only [go_sem]; refine K2 _ ?_; clear K5 K4 K3 K2; refine pwp_seq ?_
  rcases Classical.em (a = 0) with ha | ha <;> rcases Classical.em (sgnQ b * sgnQ m = 0) with hb | hb
  · refine pwx_sr 0 [some 16, some 17, some 18, some 19, some 20, some 21, some 22, some 23, some 24, some 25, some 26] (by rfl) fun _ K6 => ?_; simp (disch := omega) only [go_sem, ha, hb, decide_true]; refine K6 _ ?_; clear K6; refine pwp_cond (b := true) (by rfl) (fun _ => ?_) (fun h => nomatch h); refine pwp_seq ?_; refine pwx_sr 0 [] (by rfl) fun _ K7 => ?_; simp (disch := omega) only [go_sem]; refine K7 _ ?_; clear K7; refine pwp_cond (b := _) (by rfl) (fun hb1 => ?_) (fun hb1 => ?_)
    · first
      | (exfalso; simp at hb1; done)
      | (refine pwx_sr 0 [] (by rfl) fun _ K8 => ?_
         simp (disch := omega) only [go_sem]; refine K8 _ ?_; clear K8; refine pwp_ret ?_; refine r_then ?_; refine r_then ?_; refine ⟨Or.inr rfl, ?_⟩; simp (disch := omega) only [go_sem]
         first | exact two_r1 (by rw [sgnQ_eqz]; exact ha) | exact (two_r1 (by rw [sgnQ_eqz]; exact ha)).trans hb | exact two_1 hb | exact two_2 (by assumption) | exact two_4 hb (by assumption) (by rw [sgnQ_eqz]; exact ha) | (rw [two_2 (by assumption)]; first | rfl | assumption))
    · first
      | (exfalso; simp at hb1; done)
      | (refine pwp_skip ?_
         refine n_then ?_; refine pwx_sr 0 [] (by rfl) fun _ K9 => ?_; simp (disch := omega) only [go_sem]; refine K9 _ ?_; clear K9; refine pwp_ret ?_; refine r_then ?_; refine ⟨Or.inr rfl, ?_⟩; simp (disch := omega) only [go_sem]
         first | exact two_r1 (by rw [sgnQ_eqz]; exact ha) | exact (two_r1 (by rw [sgnQ_eqz]; exact ha)).trans hb | exact two_1 hb | exact two_2 (by assumption) | exact two_4 hb (by assumption) (by rw [sgnQ_eqz]; exact ha) | (rw [two_2 (by assumption)]; first | rfl | assumption))
  · refine pwx_sr 0 [some 16, some 17, some 18, some 19, some 20, some 21, some 22, some 23, some 24, some 25, some 26] (by rfl) fun _ K10 => ?_; simp (disch := omega) only [go_sem, ha, hb, decide_true]; refine K10 _ ?_; clear K10; refine pwp_cond (b := true) (by rfl) (fun _ => ?_) (fun h => nomatch h); refine pwp_seq ?_; refine pwx_sr 0 [] (by rfl) fun _ K11 => ?_; simp (disch := omega) only [go_sem]; refine K11 _ ?_; clear K11; refine pwp_cond (b := _) (by rfl) (fun hb3 => ?_) (fun hb3 => ?_)
    · first
      | (exfalso; simp at hb3; done)
      | (refine pwx_sr 0 [] (by rfl) fun _ K12 => ?_
         simp (disch := omega) only [go_sem]; refine K12 _ ?_; clear K12; refine pwp_ret ?_; refine r_then ?_; refine r_then ?_; refine ⟨Or.inr rfl, ?_⟩; simp (disch := omega) only [go_sem]
         first | exact two_r1 (by rw [sgnQ_eqz]; exact ha) | exact (two_r1 (by rw [sgnQ_eqz]; exact ha)).trans hb | exact two_1 hb | exact two_2 (by assumption) | exact two_4 hb (by assumption) (by rw [sgnQ_eqz]; exact ha) | (rw [two_2 (by assumption)]; first | rfl | assumption))
    · first
      | (exfalso; simp at hb3; done)
      | (refine pwp_skip ?_
         refine n_then ?_; refine pwx_sr 0 [] (by rfl) fun _ K13 => ?_; simp (disch := omega) only [go_sem]; refine K13 _ ?_; clear K13; refine pwp_ret ?_; refine r_then ?_; refine ⟨Or.inr rfl, ?_⟩; simp (disch := omega) only [go_sem]
         first | exact two_r1 (by rw [sgnQ_eqz]; exact ha) | exact (two_r1 (by rw [sgnQ_eqz]; exact ha)).trans hb | exact two_1 hb | exact two_2 (by assumption) | exact two_4 hb (by assumption) (by rw [sgnQ_eqz]; exact ha) | (rw [two_2 (by assumption)]; first | rfl | assumption))
  · refine pwx_sr 0 [some 16, some 17, some 18, some 19, some 20, some 21, some 22, some 23, some 24, some 25, some 26] (by rfl) fun _ K14 => ?_; simp (disch := omega) only [go_sem, ha, hb, decide_true]; refine K14 _ ?_; clear K14; refine pwp_cond (b := true) (by rfl) (fun _ => ?_) (fun h => nomatch h); refine pwp_seq ?_; refine pwx_sr 0 [] (by rfl) fun _ K15 => ?_; simp (disch := omega) only [go_sem]; refine K15 _ ?_; clear K15; refine pwp_cond (b := _) (by rfl) (fun hb5 => ?_) (fun hb5 => ?_)
    · first
      | (exfalso; simp at hb5; done)
      | (refine pwx_sr 0 [] (by rfl) fun _ K16 => ?_
         simp (disch := omega) only [go_sem]; refine K16 _ ?_; clear K16; refine pwp_ret ?_; refine r_then ?_; refine r_then ?_; refine ⟨Or.inr rfl, ?_⟩; simp (disch := omega) only [go_sem]
         first | exact two_r1 (by rw [sgnQ_eqz]; exact ha) | exact (two_r1 (by rw [sgnQ_eqz]; exact ha)).trans hb | exact two_1 hb | exact two_2 (by assumption) | exact two_4 hb (by assumption) (by rw [sgnQ_eqz]; exact ha) | (rw [two_2 (by assumption)]; first | rfl | assumption))
    · first
      | (exfalso; simp at hb5; done)
      | (refine pwp_skip ?_
         refine n_then ?_; refine pwx_sr 0 [] (by rfl) fun _ K17 => ?_; simp (disch := omega) only [go_sem]; refine K17 _ ?_; clear K17; refine pwp_ret ?_; refine r_then ?_; refine ⟨Or.inr rfl, ?_⟩; simp (disch := omega) only [go_sem]
         first | exact two_r1 (by rw [sgnQ_eqz]; exact ha) | exact (two_r1 (by rw [sgnQ_eqz]; exact ha)).trans hb | exact two_1 hb | exact two_2 (by assumption) | exact two_4 hb (by assumption) (by rw [sgnQ_eqz]; exact ha) | (rw [two_2 (by assumption)]; first | rfl | assumption))
  · refine pwx_sr 0 [some 16, some 17, some 18, some 19, some 20, some 21, some 22, some 23, some 24, some 25, some 26] (by rfl) fun _ K18 => ?_; simp (disch := omega) only [go_sem, ha, hb, decide_true]; refine K18 _ ?_; clear K18; refine pwp_cond (b := _) (by rfl) (fun hb6 => ?_) (fun hb6 => ?_)
    · first | replace hb6 := of_decide_eq_true hb6 | skip
      refine pwp_seq ?_; refine pwx_sr 0 [] (by rfl) fun _ K19 => ?_; simp (disch := omega) only [go_sem]; refine K19 _ ?_; clear K19; refine pwp_cond (b := _) (by rfl) (fun hb7 => ?_) (fun hb7 => ?_)
      · first
        | (exfalso; simp at hb7; done)
        | (refine pwx_sr 0 [] (by rfl) fun _ K20 => ?_
           simp (disch := omega) only [go_sem]; refine K20 _ ?_; clear K20; refine pwp_ret ?_; refine r_then ?_; refine r_then ?_; refine ⟨Or.inr rfl, ?_⟩; simp (disch := omega) only [go_sem]
           first | exact two_r1 (by rw [sgnQ_eqz]; exact ha) | exact (two_r1 (by rw [sgnQ_eqz]; exact ha)).trans hb | exact two_1 hb | exact two_2 (by assumption) | exact two_4 hb (by assumption) (by rw [sgnQ_eqz]; exact ha) | (rw [two_2 (by assumption)]; first | rfl | assumption))
      · first
        | (exfalso; simp at hb7; done)
        | (refine pwp_skip ?_
           refine n_then ?_; refine pwx_sr 0 [] (by rfl) fun _ K21 => ?_; simp (disch := omega) only [go_sem]; refine K21 _ ?_; clear K21; refine pwp_ret ?_; refine r_then ?_; refine ⟨Or.inr rfl, ?_⟩; simp (disch := omega) only [go_sem]
           first | exact two_r1 (by rw [sgnQ_eqz]; exact ha) | exact (two_r1 (by rw [sgnQ_eqz]; exact ha)).trans hb | exact two_1 hb | exact two_2 (by assumption) | exact two_4 hb (by assumption) (by rw [sgnQ_eqz]; exact ha) | (rw [two_2 (by assumption)]; first | rfl | assumption))
    · first | replace hb6 := of_decide_eq_false hb6 | skip
      refine pwp_skip ?_; refine n_then ?_; refine pwx_sd Tryz.mixed 0 [] (by rfl) [] (by kernel_rfl) (by simp) fun _ K22 => ?_; refine rgnX_take 4 fun _ K23 => ?_; simp (disch := omega) only [go_sem]; refine ⟨_, c_swarfref02_Mul _ _ (by omega), ?_⟩; refine K23 _ ?_; refine rgnX_take 3 fun _ K24 => ?_; simp (disch := omega) only [go_sem]; refine ⟨_, c_swarfref02_Mul _ _ (by omega), ?_⟩; refine K24 _ ?_; refine rgnX_take 2 fun _ K25 => ?_; simp (disch := omega) only [go_sem]; refine ⟨_, c_swarfref02_Mul _ _ (by omega), ?_⟩; refine K25 _ ?_; refine rgnX_take 1 fun _ K26 => ?_; simp (disch := omega) only [go_sem]; refine ⟨_, c_swarfref02_Cmp _ _ (by omega), ?_⟩; refine K26 _ ?_; simp (disch := omega) only [go_sem]; refine K22 _ ?_; clear K26 K25 K24 K23 K22; refine pwp_ret ?_; refine ⟨Or.inr rfl, ?_⟩; simp (disch := omega) only [go_sem]
      first | exact two_r1 (by rw [sgnQ_eqz]; exact ha) | exact (two_r1 (by rw [sgnQ_eqz]; exact ha)).trans hb | exact two_1 hb | exact two_2 (by assumption) | exact two_4 hb (by assumption) (by rw [sgnQ_eqz]; exact ha) | (rw [two_2 (by assumption)]; first | rfl | assumption)
set_option maxHeartbeats 4000000 in
theorem c_swarfref05_Sign (A B C D M N : Rat) {kA kB kC kD kM kN : Nat} [SzR A kA] [SzR B kB] [SzR C kC] [SzR D kD] [SzR M kM] [SzR N kN] (hk : kA + kB + kC + kD + kM + kN ≤ 5000) :
    Ret Tryz.prog 13 [.a (ratC A ++ (ratC B ++ (ratC C ++ (ratC D ++ (ratC M ++ ratC N)))))] (.e (.c (.int .i64 (quad A B C D M N)))) := by
  refine ret_of_body (md := {}) Tryz.func13 (by kernel_rfl) rfl ?_; simp only [Tryz.f13, go_sem, Nat.reduceAdd, Nat.reduceSub, List.reduceReplicate]; have b1 := two_bd A B M; have b2 := two_bd C D M; have b3 := mul_bd b2 (sgnQ_bd N); have b4 := mul_bd b1 (two_bd (A * A + B * B * M - N * (C * C + D * D * M)) ((A * B - N * (C * D)) + (A * B - N * (C * D))) M); refine pwx_sr 1 [] (by rfl) fun _ K1 => ?_; simp (disch := omega) only [go_sem]; refine K1 _ ?_; clear K1; refine pwp_seq ?_; by_cases h0 : M < 0
  · refine pwx_sr 0 [some 8, some 9, some 10, some 11, some 12, some 13, some 14, some 15, some 16, some 17] (by rfl) fun _ K2 => ?_; refine rgnX_take 3 fun _ K3 => ?_; simp (disch := omega) only [go_sem]; refine ⟨_, c_swarfref02_Sign _, ?_⟩; refine K3 _ ?_; refine rgnX_take 5 fun _ K4 => ?_; simp (disch := omega) only [go_sem]
    first | refine ⟨_, c_swarfref02_Sign _, ?_⟩ | skip
    refine K4 _ ?_; simp (disch := omega) only [go_sem]; refine K2 _ ?_; clear K4 K3 K2; refine pwp_cond (b := true) (by rfl) (fun _ => ?_) (fun h => nomatch h); refine pwx_sr 0 [] (by rfl) fun _ K5 => ?_; simp (disch := omega) only [go_sem]; refine K5 _ ?_; clear K5; refine pwp_ret ?_; refine r_then ?_; refine ⟨Or.inr rfl, ?_⟩; simp (disch := omega) only [go_sem]; exact quad_0 (.inl h0)
  · refine pwx_sr 0 [some 8, some 9, some 10, some 11, some 12, some 13, some 14, some 15, some 16, some 17] (by rfl) fun _ K6 => ?_; refine rgnX_take 3 fun _ K7 => ?_; simp (disch := omega) only [go_sem]; refine ⟨_, c_swarfref02_Sign _, ?_⟩; refine K7 _ ?_; refine rgnX_take 5 fun _ K8 => ?_; simp (disch := omega) only [go_sem]
    first | refine ⟨_, c_swarfref02_Sign _, ?_⟩ | skip
    refine K8 _ ?_; simp (disch := omega) only [go_sem]; refine K6 _ ?_; clear K8 K7 K6; refine pwp_cond (b := _) (by rfl) (fun hb1 => ?_) (fun hb1 => ?_)
    · first | replace hb1 := of_decide_eq_true hb1 | skip
      refine pwx_sr 0 [] (by rfl) fun _ K9 => ?_; simp (disch := omega) only [go_sem]; refine K9 _ ?_; clear K9; refine pwp_ret ?_; refine r_then ?_; refine ⟨Or.inr rfl, ?_⟩; simp (disch := omega) only [go_sem]; exact quad_0 (.inr hb1)
    · first | replace hb1 := of_decide_eq_false hb1 | skip
      refine pwp_skip ?_; refine n_then ?_; refine pwx_sd Tryz.mixed 0 [] (by rfl) [] (by kernel_rfl) (by simp) fun _ K10 => ?_; refine rgnX_take 7 fun _ K11 => ?_; simp (disch := omega) only [go_sem]; refine ⟨_, c_swarfref05_two _ _ _ (by omega), ?_⟩; refine K11 _ ?_; refine rgnX_take 7 fun _ K12 => ?_; simp (disch := omega) only [go_sem]; refine ⟨_, c_swarfref05_two _ _ _ (by omega), ?_⟩; refine K12 _ ?_; refine rgnX_take 3 fun _ K13 => ?_; simp (disch := omega) only [go_sem]; refine ⟨_, c_swarfref02_Sign _, ?_⟩; refine K13 _ ?_; simp (disch := omega) only [go_sem]; refine K10 _ ?_; clear K13 K12 K11 K10; refine pwp_seq ?_
      rcases Classical.em (two A B M = 0) with ha | ha <;> rcases Classical.em (two C D M * sgnQ N = 0) with hb | hb
      · refine pwx_sr 0 [some 36, some 37, some 38, some 39, some 40, some 41, some 42, some 43, some 44, some 45, some 46] (by rfl) fun _ K14 => ?_; simp (disch := omega) only [go_sem, ha, hb, decide_true]; refine K14 _ ?_; clear K14; refine pwp_cond (b := true) (by rfl) (fun _ => ?_) (fun h => nomatch h); refine pwp_seq ?_; refine pwx_sr 0 [] (by rfl) fun _ K15 => ?_; simp (disch := omega) only [go_sem, ha, decide_true]; refine K15 _ ?_; clear K15; refine pwp_cond (b := true) (by rfl) (fun _ => ?_) (fun h => nomatch h); refine pwx_sr 0 [] (by rfl) fun _ K16 => ?_; simp (disch := omega) only [go_sem]; refine K16 _ ?_; clear K16; refine pwp_ret ?_; refine r_then ?_; refine r_then ?_; refine ⟨Or.inr rfl, ?_⟩; simp (disch := omega) only [go_sem]; exact (quad_3 h0 hb1 ha).trans hb
      · refine pwx_sr 0 [some 36, some 37, some 38, some 39, some 40, some 41, some 42, some 43, some 44, some 45, some 46] (by rfl) fun _ K17 => ?_; simp (disch := omega) only [go_sem, ha, hb, decide_true]; refine K17 _ ?_; clear K17; refine pwp_cond (b := true) (by rfl) (fun _ => ?_) (fun h => nomatch h); refine pwp_seq ?_; refine pwx_sr 0 [] (by rfl) fun _ K18 => ?_; simp (disch := omega) only [go_sem, ha, decide_true]; refine K18 _ ?_; clear K18; refine pwp_cond (b := true) (by rfl) (fun _ => ?_) (fun h => nomatch h); refine pwx_sr 0 [] (by rfl) fun _ K19 => ?_; simp (disch := omega) only [go_sem]; refine K19 _ ?_; clear K19; refine pwp_ret ?_; refine r_then ?_; refine r_then ?_; refine ⟨Or.inr rfl, ?_⟩; simp (disch := omega) only [go_sem]; exact quad_3 h0 hb1 ha
      · refine pwx_sr 0 [some 36, some 37, some 38, some 39, some 40, some 41, some 42, some 43, some 44, some 45, some 46] (by rfl) fun _ K20 => ?_; simp (disch := omega) only [go_sem, ha, hb, decide_true]; refine K20 _ ?_; clear K20; refine pwp_cond (b := true) (by rfl) (fun _ => ?_) (fun h => nomatch h); refine pwp_seq ?_; refine pwx_sr 0 [] (by rfl) fun _ K21 => ?_; simp (disch := omega) only [go_sem, ha, decide_true]; refine K21 _ ?_; clear K21; refine pwp_cond (b := false) (by rfl) (fun h => nomatch h) (fun _ => ?_); refine pwp_skip ?_; refine n_then ?_; refine pwx_sr 0 [] (by rfl) fun _ K22 => ?_; simp (disch := omega) only [go_sem]; refine K22 _ ?_; clear K22; refine pwp_ret ?_; refine r_then ?_; refine ⟨Or.inr rfl, ?_⟩; simp (disch := omega) only [go_sem]; exact quad_1 h0 hb1 hb
      · refine pwx_sr 0 [some 36, some 37, some 38, some 39, some 40, some 41, some 42, some 43, some 44, some 45, some 46] (by rfl) fun _ K23 => ?_; simp (disch := omega) only [go_sem, ha, hb, decide_true]; refine K23 _ ?_; clear K23; refine pwp_cond (b := _) (by rfl) (fun hb8 => ?_) (fun hb8 => ?_)
        · first | replace hb8 := of_decide_eq_true hb8 | skip
          refine pwp_seq ?_; refine pwx_sr 0 [] (by rfl) fun _ K24 => ?_; simp (disch := omega) only [go_sem, ha, decide_true]; refine K24 _ ?_; clear K24; refine pwp_cond (b := false) (by rfl) (fun h => nomatch h) (fun _ => ?_); refine pwp_skip ?_; refine n_then ?_; refine pwx_sr 0 [] (by rfl) fun _ K25 => ?_; simp (disch := omega) only [go_sem]; refine K25 _ ?_; clear K25; refine pwp_ret ?_; refine r_then ?_; refine ⟨Or.inr rfl, ?_⟩; simp (disch := omega) only [go_sem]
          first | exact quad_2 h0 hb1 (by assumption) | exact quad_r4 h0 hb1 hb (by assumption) ha
        · first | replace hb8 := of_decide_eq_false hb8 | skip
          refine pwp_skip ?_; refine n_then ?_; refine pwx_sd Tryz.mixed 1 [] (by rfl) [] (by kernel_rfl) (by simp) fun _ K26 => ?_; refine rgnX_take 7 fun _ K27 => ?_; simp (disch := omega) only [go_sem]; refine ⟨_, c_swarfref02_Mul _ _ (by omega), ?_⟩; refine K27 _ ?_; refine rgnX_take 5 fun _ K28 => ?_; simp (disch := omega) only [go_sem]; refine ⟨_, c_swarfref02_Mul _ _ (by omega), ?_⟩; refine K28 _ ?_; refine rgnX_take 3 fun _ K29 => ?_; simp (disch := omega) only [go_sem]; refine ⟨_, c_swarfref02_Mul _ _ (by omega), ?_⟩; refine K29 _ ?_; refine rgnX_take 1 fun _ K30 => ?_; simp (disch := omega) only [go_sem]; refine ⟨_, c_swarfref02_Add _ _ (by omega), ?_⟩; refine K30 _ ?_; refine rgnX_take 1 fun _ K31 => ?_; simp (disch := omega) only [go_sem]; refine ⟨_, c_swarfref02_Mul _ _ (by omega), ?_⟩; refine K31 _ ?_; simp (disch := omega) only [go_sem]; refine K26 _ ?_; clear K31 K30 K29 K28 K27 K26; refine pwx_sd Tryz.mixed 1 [] (by rfl) [] (by kernel_rfl) (by simp) fun _ K32 => ?_; refine rgnX_take 5 fun _ K33 => ?_; simp (disch := omega) only [go_sem]; refine ⟨_, c_swarfref02_Mul _ _ (by omega), ?_⟩; refine K33 _ ?_; refine rgnX_take 5 fun _ K34 => ?_; simp (disch := omega) only [go_sem]; refine ⟨_, c_swarfref02_Mul _ _ (by omega), ?_⟩; refine K34 _ ?_; refine rgnX_take 3 fun _ K35 => ?_; simp (disch := omega) only [go_sem]; refine ⟨_, c_swarfref02_Mul _ _ (by omega), ?_⟩; refine K35 _ ?_; refine rgnX_take 1 fun _ K36 => ?_; simp (disch := omega) only [go_sem]; refine ⟨_, c_swarfref02_Add _ _ (by omega), ?_⟩; refine K36 _ ?_; refine rgnX_take 2 fun _ K37 => ?_; simp (disch := omega) only [go_sem]; refine ⟨_, c_swarfref02_Sub _ _ (by omega), ?_⟩; refine K37 _ ?_; simp (disch := omega) only [go_sem]; refine K32 _ ?_; clear K37 K36 K35 K34 K33 K32; refine pwx_sd Tryz.mixed 1 [] (by rfl) [] (by kernel_rfl) (by simp) fun _ K38 => ?_; refine rgnX_take 5 fun _ K39 => ?_; simp (disch := omega) only [go_sem]; refine ⟨_, c_swarfref02_Mul _ _ (by omega), ?_⟩; refine K39 _ ?_; refine rgnX_take 7 fun _ K40 => ?_; simp (disch := omega) only [go_sem]; refine ⟨_, c_swarfref02_Mul _ _ (by omega), ?_⟩; refine K40 _ ?_; refine rgnX_take 1 fun _ K41 => ?_; simp (disch := omega) only [go_sem]; refine ⟨_, c_swarfref02_Mul _ _ (by omega), ?_⟩; refine K41 _ ?_; refine rgnX_take 1 fun _ K42 => ?_; simp (disch := omega) only [go_sem]; refine ⟨_, c_swarfref02_Sub _ _ (by omega), ?_⟩; refine K42 _ ?_; simp (disch := omega) only [go_sem]; refine K38 _ ?_; clear K42 K41 K40 K39 K38; refine pwx_sd Tryz.mixed 0 [] (by rfl) [] (by kernel_rfl) (by simp) fun _ K43 => ?_; refine rgnX_take 5 fun _ K44 => ?_; simp (disch := omega) only [go_sem]; refine ⟨_, c_swarfref02_Add _ _ (by omega), ?_⟩; refine K44 _ ?_; refine rgnX_take 3 fun _ K45 => ?_; simp (disch := omega) only [go_sem]; refine ⟨_, c_swarfref05_two _ _ _ (by omega), ?_⟩; refine K45 _ ?_; simp (disch := omega) only [go_sem]; refine K43 _ ?_; clear K45 K44 K43; refine pwp_ret ?_; refine ⟨Or.inr rfl, ?_⟩; simp (disch := omega) only [go_sem]
          first | exact quad_2 h0 hb1 (by assumption) | exact quad_r4 h0 hb1 hb (by assumption) ha
set_option maxHeartbeats 4000000 in
theorem c_swarfref05_Sub (a b c a' b' c' : Rat) {k l m k' l' m' : Nat} [SzR a k] [SzR b l] [SzR c m] [SzR a' k'] [SzR b' l'] [SzR c' m'] (hk : k + l + m + k' + l' + m' ≤ 20000) :
    Ret Tryz.prog 61 [.a (ratC (a) ++ (ratC (b) ++ ratC (c))), .a (ratC (a') ++ (ratC (b') ++ ratC (c')))] (.e (.a (ratC (a - a') ++ (ratC b ++ (ratC (-b') ++ (ratC 0 ++ (ratC c ++ ratC c'))))))) := by
  refine ret_of_body (md := {}) Tryz.func61 (by kernel_rfl) rfl ?_; simp only [Tryz.f61, go_sem, Nat.reduceAdd, Nat.reduceSub, List.reduceReplicate]; refine pwx_sr 3 [] (by rfl) fun _ K1 => ?_; simp (disch := omega) only [go_sem]; refine K1 _ ?_; clear K1; refine pwx_sd Tryz.mixed 0 [] (by rfl) [] (by kernel_rfl) (by simp) fun _ K2 => ?_; refine rgnX_take 5 fun _ K3 => ?_; simp (disch := omega) only [go_sem]; refine ⟨_, c_swarfref02_Sub _ _ (by omega), ?_⟩; refine K3 _ ?_; refine rgnX_take 5 fun _ K4 => ?_; simp (disch := omega) only [go_sem]; refine ⟨_, c_swarfref02_Neg _ (by omega), ?_⟩; refine K4 _ ?_; refine rgnX_take 1 fun _ K5 => ?_; simp (disch := omega) only [go_sem]; refine ⟨_, c_swarfref02_FromInt64 _ (by omega) (by omega), ?_⟩; refine K5 _ ?_; simp (disch := omega) only [go_sem]; refine K2 _ ?_; clear K5 K4 K3 K2; refine pwp_ret ?_; refine ⟨Or.inr rfl, ?_⟩; simp (disch := omega) only [go_sem]
  all_goals rfl
set_option maxHeartbeats 4000000 in
theorem c_swarfref05_Cmp (a b c a' b' c' : Rat) {k l m k' l' m' : Nat} [SzR a k] [SzR b l] [SzR c m] [SzR a' k'] [SzR b' l'] [SzR c' m'] (hk : k + l + m + k' + l' + m' ≤ 2000) :
    Ret Tryz.prog 24 [.a (ratC (a) ++ (ratC (b) ++ ratC (c))), .a (ratC (a') ++ (ratC (b') ++ ratC (c')))] (.e (.c (.int .i64 (cmpR a b c a' b' c')))) := by
  refine ret_of_body (md := {}) Tryz.func24 (by kernel_rfl) rfl ?_; simp only [Tryz.f24, go_sem, Nat.reduceAdd, Nat.reduceSub, List.reduceReplicate]; refine pwx_sr 2 [] (by rfl) fun _ K1 => ?_; simp (disch := omega) only [go_sem]; refine K1 _ ?_; clear K1; refine pwx_sr 0 [] (by rfl) fun _ K2 => ?_; refine rgnX_take 3 fun _ K3 => ?_; simp (disch := omega) only [go_sem]; refine ⟨_, c_swarfref05_Sub _ _ _ _ _ _ (by omega), ?_⟩; refine K3 _ ?_; refine rgnX_take 1 fun _ K4 => ?_; simp (disch := omega) only [go_sem]; refine ⟨_, c_swarfref05_Sign _ _ _ _ _ _ (by omega), ?_⟩; refine K4 _ ?_; simp (disch := omega) only [go_sem]; refine K2 _ ?_; clear K4 K3 K2; refine pwp_ret ?_; refine ⟨Or.inr rfl, ?_⟩; simp (disch := omega) only [go_sem]
  all_goals rfl

end Go.Proofs.YtdojhoegildiaaaGreat

set_option linter.unusedSimpArgs false
set_option linter.unusedVariables false
set_option maxRecDepth 20000
namespace Go.Proofs.YtdojhoegildiaaaGreat
open Go Go.PL Go.RL
set_option maxHeartbeats 4000000 in
theorem c_root_Floor (a b c : Rat) {k l m : Nat} [SzR a k] [SzR b l] [SzR c m] (hk : k + l + m ≤ 10000) :
    Ret Tryz.prog 104 [.a (ratC (a) ++ (ratC (b) ++ ratC (c)))] (.e (.a (intC (flR a b c)))) := by
  refine ret_of_body (md := {}) Tryz.func104 (by kernel_rfl) rfl ?_; simp only [Tryz.f104, go_sem, Nat.reduceAdd, Nat.reduceSub, List.reduceReplicate]; have hda := a.den_pos; have hds := (b * b * c).den_pos; have hdp := Nat.mul_pos hda hds; refine pwx_sr 2 [] (by rfl) fun _ K1 => ?_; simp (disch := omega) only [go_sem]; refine K1 _ ?_; clear K1; refine pwp_seq ?_; refine pwx_sr 0 [] (by rfl) fun _ K2 => ?_; refine rgnX_take 3 fun _ K3 => ?_; simp (disch := omega) only [go_sem]; refine ⟨_, c_rational_Sign _, ?_⟩; refine K3 _ ?_; simp (disch := omega) only [go_sem]; refine K2 _ ?_; clear K3 K2; refine pwp_cond (b := _) (by rfl) (fun hb0 => ?_) (fun hb0 => ?_)
  · first | replace hb0 := of_decide_eq_true hb0 | skip
    refine pwx_sr 0 [] (by rfl) fun _ K4 => ?_; refine rgnX_take 3 fun _ K5 => ?_; simp (disch := omega) only [go_sem]; refine ⟨_, c_rational_Floor _ (by omega), ?_⟩; refine K5 _ ?_; simp (disch := omega) only [go_sem]; refine K4 _ ?_; clear K5 K4; refine pwp_ret ?_; refine r_then ?_; refine ⟨Or.inr rfl, ?_⟩; simp (disch := omega) only [go_sem]
    all_goals rw [flR_z hb0]
  · first | replace hb0 := of_decide_eq_false hb0 | skip
    refine pwp_skip ?_; refine n_then ?_; refine pwx_sdH Tryz.mixed 1 [] (by rfl) [] [(1, 0), (3, 2), (19, 0), (21, 0), (24, 0)] (by kernel_rfl) (by kernel_rfl) (by simp) (by simp [HomeAt, St.pad]) fun _ K6 => ?_; refine rgnX_take 5 fun _ K7 => ?_; simp (disch := omega) only [go_sem]; refine ⟨_, c_rational_Mul _ _ (by omega), ?_⟩; refine K7 _ ?_; refine rgnX_take 3 fun _ K8 => ?_; simp (disch := omega) only [go_sem]; refine ⟨_, c_rational_Mul _ _ (by omega), ?_⟩; refine K8 _ ?_; simp (disch := omega) only [go_sem]; refine K6 _ ?_; clear K8 K7 K6; refine pwx_sdH Tryz.mixed 2 [] (by rfl) [] [(1, 0), (3, 2), (4, 3), (5, 4), (27, 0), (28, 0), (30, 2)] (by kernel_rfl) (by kernel_rfl) (by simp) (by simp [HomeAt, St.pad]) fun _ K9 => ?_; simp (disch := omega) only [go_sem]; refine K9 _ ?_; clear K9; refine pwx_sdH Tryz.mixed 1 [] (by rfl) [] [(3, 2), (4, 3), (5, 4), (6, 5), (35, 2)] (by kernel_rfl) (by kernel_rfl) (by simp) (by simp [HomeAt, St.pad]) fun _ K10 => ?_; refine rgnX_take 3 fun _ K11 => ?_; simp (disch := omega) only [go_sem]; refine ⟨_, c_integer_Mul _ _ szi szi, ?_⟩; refine K11 _ ?_; refine rgnX_take 4 fun _ K12 => ?_; simp (disch := omega) only [go_sem]; refine ⟨_, c_integer_Mul _ _ szi szi, ?_⟩; refine K12 _ ?_; refine rgnX_take 1 fun _ K13 => ?_; simp (disch := omega) only [go_sem]; refine ⟨_, c_integer_Mul _ _ szi szi, ?_⟩; refine K13 _ ?_; simp (disch := omega) only [go_sem]; refine K10 _ ?_; clear K13 K12 K11 K10; refine pwx_sr 1 [] (by rfl) fun _ K14 => ?_; refine rgnX_take 2 fun _ K15 => ?_; simp (disch := omega) only [go_sem]; refine ⟨_, c_integer_Sqrt _ szi9, ?_⟩; refine K15 _ ?_; simp (disch := omega) only [go_sem]; refine K14 _ ?_; clear K15 K14; refine pwp_seq ?_; refine pwx_sr 0 [] (by rfl) fun _ K16 => ?_; refine rgnX_take 3 fun _ K17 => ?_; simp (disch := omega) only [go_sem]; refine ⟨_, c_rational_Sign _, ?_⟩; refine K17 _ ?_; simp (disch := omega) only [go_sem]; refine K16 _ ?_; clear K17 K16; refine pwp_cond (b := _) (by rfl) (fun hb1 => ?_) (fun hb1 => ?_)
    · first | replace hb1 := of_decide_eq_true hb1 | skip
      refine pwx_drawH Tryz.mixed 0 [] (by rfl) [] [(7, 6)] (by kernel_rfl) (by kernel_rfl) (by simp) (by simp [HomeAt, St.pad]) fun _ K18 => ?_; refine rgnX_take 2 fun _ K19 => ?_; simp (disch := omega) only [go_sem]; refine ⟨_, c_integer_FromInt64 _ (by omega) (by omega), ?_⟩; refine K19 _ ?_; refine rgnX_take 1 fun _ K20 => ?_; simp (disch := omega) only [go_sem]; refine ⟨_, c_integer_Add _ _ szi szi, ?_⟩; refine K20 _ ?_; refine rgnX_take 1 fun _ K21 => ?_; simp (disch := omega) only [go_sem]; refine ⟨_, c_integer_Neg _ szi, ?_⟩; refine K21 _ ?_; simp (disch := omega) only [go_sem]; refine K18 _ ?_; clear K21 K20 K19 K18; refine n_then ?_; refine pwx_sdH Tryz.mixed 2 [] (by rfl) [] [(1, 0), (4, 3), (5, 4), (7, 6), (9, 7), (10, 8), (54, 0), (55, 0)] (by kernel_rfl) (by kernel_rfl) (by simp) (by simp [HomeAt, St.pad]) fun _ K22 => ?_; refine rgnX_take 5 fun _ K23 => ?_; simp (disch := omega) only [go_sem]; refine ⟨_, c_integer_Mul _ _ szi szi, ?_⟩; refine K23 _ ?_; refine rgnX_take 2 fun _ K24 => ?_; simp (disch := omega) only [go_sem]; refine ⟨_, c_integer_Add _ _ szi szi, ?_⟩; refine K24 _ ?_; refine rgnX_take 3 fun _ K25 => ?_; simp (disch := omega) only [go_sem]; refine ⟨_, c_integer_Mul _ _ szi szi, ?_⟩; refine K25 _ ?_; refine rgnX_take 1 fun _ K26 => ?_; simp (disch := omega) only [go_sem]; refine ⟨_, c_integer_DivMod _ _ szi szi (by first | assumption | omega), ?_⟩; refine K26 _ ?_; simp (disch := omega) only [go_sem]; refine K22 _ ?_; clear K26 K25 K24 K23 K22; refine pwx_sr 0 [] (by rfl) fun _ K27 => ?_; simp (disch := omega) only [go_sem]; refine K27 _ ?_; clear K27; refine pwp_ret ?_; refine ⟨Or.inr rfl, ?_⟩; simp (disch := omega) only [go_sem]
      all_goals rw [flR_n hb0 hb1, Int.natCast_mul, Int.natCast_mul]
    · first | replace hb1 := of_decide_eq_false hb1 | skip
      refine pwp_skip ?_; refine n_then ?_; refine pwx_sdH Tryz.mixed 2 [] (by rfl) [] [(1, 0), (4, 3), (5, 4), (7, 6), (9, 7), (10, 8), (54, 0), (55, 0)] (by kernel_rfl) (by kernel_rfl) (by simp) (by simp [HomeAt, St.pad]) fun _ K28 => ?_; refine rgnX_take 5 fun _ K29 => ?_; simp (disch := omega) only [go_sem]; refine ⟨_, c_integer_Mul _ _ szi szi, ?_⟩; refine K29 _ ?_; refine rgnX_take 2 fun _ K30 => ?_; simp (disch := omega) only [go_sem]; refine ⟨_, c_integer_Add _ _ szi szi, ?_⟩; refine K30 _ ?_; refine rgnX_take 3 fun _ K31 => ?_; simp (disch := omega) only [go_sem]; refine ⟨_, c_integer_Mul _ _ szi szi, ?_⟩; refine K31 _ ?_; refine rgnX_take 1 fun _ K32 => ?_; simp (disch := omega) only [go_sem]; refine ⟨_, c_integer_DivMod _ _ szi szi (by first | assumption | omega), ?_⟩; refine K32 _ ?_; simp (disch := omega) only [go_sem]; refine K28 _ ?_; clear K32 K31 K30 K29 K28; refine pwx_sr 0 [] (by rfl) fun _ K33 => ?_; simp (disch := omega) only [go_sem]; refine K33 _ ?_; clear K33; refine pwp_ret ?_; refine ⟨Or.inr rfl, ?_⟩; simp (disch := omega) only [go_sem]
      all_goals rw [flR_p hb0 hb1, Int.natCast_mul, Int.natCast_mul]

end Go.Proofs.YtdojhoegildiaaaGreat

namespace Go.PL
open Go.RL
def pC (b d c : Rat) : Rat := if b = 0 ∧ d = 0 then 0 else c
instance SzR.pC {b d c : Rat} {k : Nat} [h : SzR c k] : SzR (pC b d c) (1 + k) := SzR.ite
theorem rC_1 {b c : Rat} (h : ¬ b = 0) : rC b c = c := if_neg h
theorem rC_nn {b c : Rat} (h : 0 ≤ c) : 0 ≤ rC b c := by
  unfold rC; split
  · exact Rat.le_refl
  · exact h
def cmpP (a b d e c a' b' d' e' c' : Rat) : Int :=
  if cmpR a b (rC b c) a' b' (rC b' c') ≠ 0 then cmpR a b (rC b c) a' b' (rC b' c') else cmpR d e (rC e c) d' e' (rC e' c')
def sqA (a b d e c v w : Rat) : Rat := (a - v) * (a - v) + (d - w) * (d - w) + (b * b + e * e) * c
def sqB2 (a b d e v w : Rat) : Rat := (a - v) * b + (d - w) * e + ((a - v) * b + (d - w) * e)
def vldP (b e c : Rat) : Bool := if b = 0 ∧ e = 0 then decide (c = 0) else decide (0 < c) && !sqB c
theorem five {a b c d e : Bool} : a = false ∨ (a = true ∧ b = false) ∨ (a = true ∧ b = true ∧ c = false) ∨ (a = true ∧ b = true ∧ c = true ∧ d = false) ∨ (a = true ∧ b = true ∧ c = true ∧ d = true ∧ e = false) ∨ (a = true ∧ b = true ∧ c = true ∧ d = true ∧ e = true) := by
  cases a <;> cases b <;> cases c <;> cases d <;> cases e <;> simp
end Go.PL

namespace Go.PL
open Go.RL
instance : SzR 3 1 := ⟨szi_lit (by decide), szi_lit (by decide)⟩
instance : SzR 5 1 := ⟨szi_lit (by decide), szi_lit (by decide)⟩
instance : SzR 8 1 := ⟨szi_lit (by decide), szi_lit (by decide)⟩
instance : SzR (-1) 1 := ⟨szi_lit (by decide), szi_lit (by decide)⟩
theorem ex_i0 : ((0 : Int) : Rat) = 0 := rfl
theorem ex_i1 : ((1 : Int) : Rat) = 1 := rfl
end Go.PL

namespace Go.PL
open Go.RL
end Go.PL

namespace Go.PL
open Go.RL
structure PtC (X : List PC) : Prop where
  len : X.length = 20
  im : X.all PC.im = true
  nm : X.map PC.norm = X
theorem PtC.raw (n0 n1 n2 n3 n4 n5 n6 n7 n8 n9 : Bool) (l0 l1 l2 l3 l4 l5 l6 l7 l8 l9 : List Nat) : PtC [.bool n0, lC l0, .bool n1, lC l1, .bool n2, lC l2, .bool n3, lC l3, .bool n4, lC l4, .bool n5, lC l5, .bool n6, lC l6, .bool n7, lC l7, .bool n8, lC l8, .bool n9, lC l9] :=
  ⟨rfl, rfl, rfl⟩
theorem cmpR_swap {a b c a' b' c' : Rat} (hc : 0 ≤ c) (hc' : 0 ≤ c') : cmpR a' b' c' a b c = -cmpR a b c a' b' c' := by
  rw [cmpR_eq hc' hc, cmpR_eq hc hc', ← sgn_neg]
  congr 1
  apply Re.ext; intro n
  simp only [Re.sub_s, Re.neg_s]
  grind
end Go.PL

namespace Go.PL
open Go.RL
theorem v2_rC {a b c : Rat} : v2 a b (rC b c) = v2 a b c := by
  by_cases h : b = 0
  · rw [h, v2_b0, v2_b0]
  · rw [rC_1 h]
variable {a b d e c v w : Rat}
instance SzR.sqA {k1 k2 k3 k4 k5 k6 k7 : Nat} [SzR a k1] [SzR b k2] [SzR d k3] [SzR e k4] [SzR c k5] [SzR v k6] [SzR w k7] : SzR (sqA a b d e c v w) (k1 + k6 + 1 + (k1 + k6 + 1) + (k3 + k7 + 1 + (k3 + k7 + 1)) + 1 + (k2 + k2 + (k4 + k4) + 1 + k5) + 1) := by
  unfold PL.sqA; infer_instance
instance SzR.sqB2 {k1 k2 k3 k4 k6 k7 : Nat} [SzR a k1] [SzR b k2] [SzR d k3] [SzR e k4] [SzR v k6] [SzR w k7] : SzR (sqB2 a b d e v w) (k1 + k6 + 1 + k2 + (k3 + k7 + 1 + k4) + 1 + (k1 + k6 + 1 + k2 + (k3 + k7 + 1 + k4) + 1) + 1) := by
  unfold PL.sqB2; infer_instance
end Go.PL

namespace Go.PL
open Go.RL
theorem nr_1 : ((1 : Int) : Rat) = 1 := rfl
theorem sgnQ_lez (q : Rat) : (sgnQ q ≤ 0) = ¬ (0 < q) := by
  apply propext
  rw [← sgnQ_gtz]
  omega
instance SzR.divInt1 {n : Int} {k : Nat} [SzI n k] : SzR (Rat.divInt n 1) (max k 1) := divInt_size (by decide)
attribute [go_sem] sgnQ_lez
end Go.PL

namespace Go.PL
open Go.RL
theorem sgnQ_pos {q : Rat} (h : 0 < q) : sgnQ q = 1 := by
  have h1 : 0 < sgnQ q := by rw [sgnQ_gtz]; exact h
  have := (sgnQ_bd q).2
  omega
theorem sgnQ_nn {q : Rat} (h : 0 ≤ q) : 0 ≤ sgnQ q := by
  have : ¬ sgnQ q < 0 := by rw [sgnQ_ltz]; exact Rat.not_lt.2 h
  omega
theorem sgnQ_np {q : Rat} (h : q ≤ 0) : sgnQ q ≤ 0 := by
  have : ¬ 0 < sgnQ q := by rw [sgnQ_gtz]; exact Rat.not_lt.2 h
  omega
theorem sgnQ_zero {q : Rat} (h : q = 0) : sgnQ q = 0 := by rw [sgnQ_eqz]; exact h
variable {u b c : Rat}
theorem two_lo (hb : 0 < b) (hc : 0 ≤ c) (h : 0 ≤ u ∨ u * u ≤ b * b * c) : 0 ≤ two u b c := by
  have s1 := sgnQ_pos hb
  have s2 := sgnQ_nn hc
  have hy : sgnQ b * sgnQ c = sgnQ c := by rw [s1, Int.one_mul]
  have s3 := (sgnQ_bd c).2
  by_cases x0 : sgnQ u = 0
  · rw [two_3 x0, hy]; exact s2
  by_cases y0 : sgnQ c = 0
  · rw [two_1 (by rw [hy]; exact y0)]
    have c0 : c = 0 := by rw [← sgnQ_eqz]; exact y0
    rcases h with h | h
    · exact sgnQ_nn h
    · exfalso
      rw [sgnQ_eqz] at x0
      rw [c0] at h
      have : 0 < u * u := by
        by_cases q : u < 0
        · have := Rat.mul_pos (show (0 : Rat) < -u by grind) (show (0 : Rat) < -u by grind); grind
        · have q' : 0 < u := by grind
          exact Rat.mul_pos q' q'
      grind
  · by_cases xy : sgnQ u = sgnQ c
    · rw [two_2 (by rw [hy]; exact xy), xy]; exact s2
    · rw [two_4 (by rw [hy]; exact y0) (by rw [hy]; exact xy) x0]
      have := sgnQ_bd u
      have hu : sgnQ u = -1 := by omega
      rcases h with h | h
      · have := sgnQ_nn h; omega
      · have hm : cmpQ (u * u) (b * b * c) ≤ 0 := sgnQ_np (by grind)
        rw [hu]; omega
theorem two_hi (hb : 0 < b) (hc : 0 ≤ c) (h : u ≤ 0) (h' : b * b * c ≤ u * u) : two u b c ≤ 0 := by
  have s1 := sgnQ_pos hb
  have s2 := sgnQ_nn hc
  have hy : sgnQ b * sgnQ c = sgnQ c := by rw [s1, Int.one_mul]
  have s3 := (sgnQ_bd c).2
  have su := sgnQ_np h
  by_cases x0 : sgnQ u = 0
  · rw [two_3 x0, hy]
    have u0 : u = 0 := by rw [← sgnQ_eqz]; exact x0
    have c0 : ¬ 0 < c := fun q => by
      have := Rat.mul_pos (Rat.mul_pos hb hb) q
      rw [u0] at h'; grind
    exact sgnQ_np (Rat.not_lt.1 c0)
  by_cases y0 : sgnQ c = 0
  · rw [two_1 (by rw [hy]; exact y0)]; exact su
  · rw [two_4 (by rw [hy]; exact y0) (by rw [hy]; omega) x0]
    have := sgnQ_bd u
    have hu : sgnQ u = -1 := by omega
    have hm : 0 ≤ cmpQ (u * u) (b * b * c) := sgnQ_nn (by grind)
    rw [hu]; omega
theorem two_neg (hc : 0 ≤ c) : two (-u) (-b) c = -two u b c := by
  rw [two_eq hc, two_eq hc, ← sgn_neg]
  congr 1
  apply Re.ext; intro n
  simp only [v2, Re.add_s, Re.mul_s, Re.of_s, Re.neg_s]
  grind
theorem two_lo' (hb : b < 0) (hc : 0 ≤ c) (h : 0 ≤ u) (h' : b * b * c ≤ u * u) : 0 ≤ two u b c := by
  have := two_hi (u := -u) (b := -b) (by grind) hc (by grind) (by grind)
  rw [two_neg hc] at this
  omega
theorem two_hi' (hb : b < 0) (hc : 0 ≤ c) (h : u ≤ 0 ∨ u * u ≤ b * b * c) : two u b c ≤ 0 := by
  have := two_lo (u := -u) (b := -b) (by grind) hc (h.imp (fun q => by grind) (fun q => by grind))
  rw [two_neg hc] at this
  omega
theorem fl_1 {u W M s : Rat} (hM : 0 < M) (hu : u ≤ 0) (h : -u * M ≤ W) (h' : W * W ≤ M * M * s) : u * u ≤ s := by
  have hx : 0 ≤ -u * M := Rat.mul_nonneg (by grind) (Rat.le_of_lt hM)
  have h1 : (-u * M) * (-u * M) ≤ W * W := by
    have a1 := Rat.mul_le_mul_of_nonneg_left h hx
    have a2 := Rat.mul_le_mul_of_nonneg_right h (Rat.le_trans hx h)
    grind
  rcases Classical.em (u * u ≤ s) with c | c
  · exact c
  · exfalso
    have c' : s < u * u := Rat.not_le.1 c
    have := Rat.mul_lt_mul_of_pos_left c' (Rat.mul_pos hM hM)
    grind
theorem fl_2 {u W M s : Rat} (hM : 0 < M) (hW : 0 ≤ W) (h : W + 1 ≤ -u * M) (h' : M * M * s < (W + 1) * (W + 1)) : u ≤ 0 ∧ s ≤ u * u := by
  have hu : u ≤ 0 := by
    rcases Classical.em (u ≤ 0) with c | c
    · exact c
    · exfalso
      have := Rat.mul_pos (Rat.not_le.1 c) hM
      grind
  refine ⟨hu, ?_⟩
  have h1 : (W + 1) * (W + 1) ≤ (-u * M) * (-u * M) := by
    have a1 := Rat.mul_le_mul_of_nonneg_left h (show (0 : Rat) ≤ W + 1 by grind)
    have a2 := Rat.mul_le_mul_of_nonneg_right h (show (0 : Rat) ≤ -u * M by grind)
    grind
  rcases Classical.em (s ≤ u * u) with c | c
  · exact c
  · exfalso
    have c' : u * u < s := Rat.not_le.1 c
    have := Rat.mul_lt_mul_of_pos_left c' (Rat.mul_pos hM hM)
    grind
theorem flR_spec {a : Rat} (hc : 0 ≤ c) : 0 ≤ sgn (v2 (a - (flR a b c : Int)) b c) ∧ sgn (v2 (a - ((flR a b c : Int) + 1)) b c) ≤ 0 := by
  by_cases hb : b = 0
  · rw [hb, v2_b0, v2_b0, sgn_of, sgn_of, flR_z rfl]
    exact ⟨sgnQ_nn (by have := fl_le a; grind), sgnQ_np (by have := lt_fl a; grind)⟩
  rw [← two_eq hc, ← two_eq hc]
  -- the parts
  have hs : 0 ≤ b * b * c := Rat.mul_nonneg (by
    by_cases q : 0 ≤ b
    · exact Rat.mul_nonneg q q
    · have := Rat.mul_nonneg (show (0 : Rat) ≤ -b by grind) (show (0 : Rat) ≤ -b by grind); grind) hc
  have hN : b < 0 → _ := fun h => flR_n (a := a) (c := c) hb h
  have hP : ¬ b < 0 → _ := fun h => flR_p (a := a) (c := c) hb h
  generalize hsd : b * b * c = s at *
  have hn := a.den_pos
  have hq := s.den_pos
  have hp : 0 ≤ s.num := Rat.num_nonneg.2 hs
  have hz : 0 ≤ ((a.den : Int) * (a.den : Int)) * (s.num * (s.den : Int)) := Int.mul_nonneg (Int.mul_nonneg (by omega) (by omega)) (Int.mul_nonneg hp (by omega))
  obtain ⟨w0, w1, w2⟩ := sqrtI_facts hz
  have hm : 0 < (a.den : Int) * (s.den : Int) := Int.mul_pos (by omega) (by omega)
  have eA : a * (a.den : Int) = (a.num : Rat) := by
    have h := divInt_mul (n := a.num) (d := (a.den : Int)) (by omega)
    rwa [Rat.num_divInt_den] at h
  have eS : s * (s.den : Int) = (s.num : Rat) := by
    have h := divInt_mul (n := s.num) (d := (s.den : Int)) (by omega)
    rwa [Rat.num_divInt_den] at h
  generalize hw : sqrtI (((a.den : Int) * (a.den : Int)) * (s.num * (s.den : Int))) = w at *
  generalize hnn : (a.den : Int) = n at *
  generalize hqq : (s.den : Int) = q at *
  -- in fractions
  have cn : (0 : Rat) < (n : Rat) := by exact_mod_cast (show (0 : Int) < n by omega)
  have cq : (0 : Rat) < (q : Rat) := by exact_mod_cast (show (0 : Int) < q by omega)
  have W0 : (0 : Rat) ≤ (w : Rat) := by exact_mod_cast w0
  have M0 : (0 : Rat) < (n : Rat) * q := Rat.mul_pos cn cq
  have W1 : (w : Rat) * w ≤ ((n : Rat) * q) * ((n : Rat) * q) * s := by
    have h : ((w * w : Int) : Rat) ≤ (((n * n) * (s.num * q) : Int) : Rat) := by exact_mod_cast w1
    rw [Rat.intCast_mul, Rat.intCast_mul, Rat.intCast_mul, Rat.intCast_mul, ← eS] at h
    grind
  have W2 : ((n : Rat) * q) * ((n : Rat) * q) * s < ((w : Rat) + 1) * ((w : Rat) + 1) := by
    have h : (((n * n) * (s.num * q) : Int) : Rat) < (((w + 1) * (w + 1) : Int) : Rat) := by exact_mod_cast w2
    rw [Rat.intCast_mul, Rat.intCast_mul, Rat.intCast_mul, Rat.intCast_mul, Rat.intCast_add, ← eS] at h
    have e1 : ((1 : Int) : Rat) = 1 := rfl
    rw [e1] at h
    grind
  -- what is divided
  have key : ∀ r f : Int, f = (a.num * q + r) / (n * q) → (f : Rat) * (n * q) ≤ a * ((n : Rat) * q) + r ∧ a * ((n : Rat) * q) + r + 1 ≤ ((f : Rat) + 1) * (n * q) := by
    intro r f hf
    have h1 := Int.mul_ediv_self_le (x := a.num * q + r) (k := n * q) (by omega)
    have h2 := Int.lt_mul_ediv_self_add (x := a.num * q + r) (k := n * q) hm
    rw [← hf] at h1 h2
    have h3 : ((n * q * f : Int) : Rat) ≤ ((a.num * q + r : Int) : Rat) := by exact_mod_cast h1
    have h4 : ((a.num * q + r + 1 : Int) : Rat) ≤ ((n * q * f + n * q : Int) : Rat) := by exact_mod_cast h2
    have e1 : ((1 : Int) : Rat) = 1 := rfl
    simp only [Rat.intCast_mul, Rat.intCast_add, ← eA, e1] at h3 h4
    exact ⟨by grind, by grind⟩
  by_cases hbn : b < 0
  · obtain ⟨k1, k2⟩ := key _ _ (hN hbn)
    generalize flR a b c = f at *
    have e1 : ((-(w + 1) : Int) : Rat) = -((w : Rat) + 1) := by rw [Rat.intCast_neg, Rat.intCast_add]; rfl
    rw [e1] at k1 k2
    refine ⟨?_, ?_⟩
    · have := fl_2 (u := -(a - (f : Rat))) M0 W0 (by grind) W2
      exact two_lo' hbn hc (by grind) (by rw [hsd]; grind)
    · refine two_hi' hbn hc ?_
      rcases Classical.em (a - ((f : Rat) + 1) ≤ 0) with q0 | q0
      · exact .inl q0
      · have := fl_1 (u := -(a - ((f : Rat) + 1))) M0 (by have := Rat.not_le.1 q0; grind) (by grind) W1
        exact .inr (by rw [hsd]; grind)
  · obtain ⟨k1, k2⟩ := key _ _ (hP hbn)
    generalize flR a b c = f at *
    have hbp : 0 < b := by grind
    refine ⟨?_, ?_⟩
    · refine two_lo hbp hc ?_
      rcases Classical.em (0 ≤ a - (f : Rat)) with q0 | q0
      · exact .inl q0
      · have := fl_1 (u := a - (f : Rat)) M0 (by have := Rat.not_le.1 q0; grind) (by grind) W1
        exact .inr (by rw [hsd]; exact this)
    · have := fl_2 (u := a - ((f : Rat) + 1)) M0 W0 (by grind) W2
      exact two_hi hbp hc this.1 (by rw [hsd]; exact this.2)
end Go.PL

set_option linter.unusedSimpArgs false
set_option linter.unusedVariables false
namespace Go.PL
open Go.RL
theorem nn_null {x y z : Re} (hz : null z) (e : ∀ n, y.s n = x.s n + z.s n) (h : 0 ≤ sgn x) : 0 ≤ sgn y := by
  have : y = x + z := Re.ext e
  rw [this, sgn_add_null _ hz]; exact h
theorem nn_1 {x : Re} (h : sgn x = 1) : 0 ≤ sgn x := by omega
theorem rt_nn (q : Rat) : 0 ≤ sgn (rt q) := rt_nonneg q
theorem rt_hi {c : Rat} (hc : 0 ≤ c) : 0 ≤ sgn (Re.of (c + 1) - rt c) := by
  refine le_of_sq (nn_of.2 (by grind)) ?_
  refine nn_null (x := Re.of ((c + 1) * (c + 1) - c)) (z := -(rt c * rt c - Re.of c)) (null_neg (rt_sq hc)) (fun n => ?_) (nn_of.2 ?_)
  · simp only [Re.sub_s, Re.mul_s, Re.neg_s, Re.of_s]; grind
  · have := Rat.mul_nonneg hc hc; grind
theorem natAbs_ge (n : Int) : (n : Rat) ≤ ((n.natAbs : Int) : Rat) ∧ -(n : Rat) ≤ ((n.natAbs : Int) : Rat) := by
  refine ⟨by exact_mod_cast (show n ≤ (n.natAbs : Int) by omega), ?_⟩
  have h : -n ≤ (n.natAbs : Int) := by omega
  have h2 : ((-n : Int) : Rat) ≤ ((n.natAbs : Int) : Rat) := by exact_mod_cast h
  rwa [Rat.intCast_neg] at h2
theorem natAbs_nn (n : Int) : (0 : Rat) ≤ ((n.natAbs : Int) : Rat) := by exact_mod_cast (show (0 : Int) ≤ (n.natAbs : Int) by omega)
theorem num_ge (q : Rat) : q ≤ ((q.num.natAbs : Int) : Rat) ∧ -q ≤ ((q.num.natAbs : Int) : Rat) := by
  have h1 := den_mul q
  have h2 : (1 : Rat) ≤ q.den := by exact_mod_cast q.den_pos
  obtain ⟨h3, h4⟩ := natAbs_ge q.num
  have h5 := natAbs_nn q.num
  constructor
  · by_cases h : 0 ≤ q
    · have := Rat.mul_nonneg h (show (0 : Rat) ≤ q.den - 1 by grind); grind
    · grind
  · by_cases h : 0 ≤ -q
    · have := Rat.mul_nonneg h (show (0 : Rat) ≤ q.den - 1 by grind); grind
    · grind
def bdI (V W M : Rat) : Int := (V.num.natAbs : Int) + (W.num.natAbs : Int) * ((M.num.natAbs : Int) + 1)
instance SzI.natAbs {x : Int} {k : Nat} [h : SzI x k] : SzI ((x.natAbs : Nat) : Int) k := SzI.of_lt (by have := h.lt; simpa using this)
theorem ic1 : ((1 : Int) : Rat) = 1 := rfl
theorem part_hi {W M : Rat} (hM : 0 ≤ M) : 0 ≤ sgn (Re.of ((((W.num.natAbs : Int) * ((M.num.natAbs : Int) + 1) : Int)) : Rat) - Re.of W * rt M) := by
  obtain ⟨w1, w2⟩ := num_ge W
  have w3 := natAbs_nn W.num
  obtain ⟨m1, m2⟩ := num_ge M
  have h1 := nn_mul (nn_of.2 w3) (rt_hi hM)
  have h2 := nn_mul (nn_of.2 (show 0 ≤ ((W.num.natAbs : Int) : Rat) - W by grind)) (rt_nn M)
  have h3 : 0 ≤ ((W.num.natAbs : Int) : Rat) * (((M.num.natAbs : Int) : Rat) - M) := Rat.mul_nonneg w3 (by grind)
  refine nn_eq (fun n => ?_) (nn_add (nn_add h1 h2) (nn_of.2 h3))
  simp only [Re.add_s, Re.sub_s, Re.mul_s, Re.of_s, Rat.intCast_mul, Rat.intCast_add, ic1]
  grind
theorem bd_hi {V W M : Rat} (hM : 0 ≤ M) : 0 ≤ sgn (Re.of (bdI V W M : Int) - v2 V W M) := by
  obtain ⟨v1, v2'⟩ := num_ge V
  refine nn_eq (fun n => ?_) (nn_add (nn_of.2 (show 0 ≤ ((V.num.natAbs : Int) : Rat) - V by grind)) (part_hi (W := W) hM))
  simp only [bdI, v2, Re.add_s, Re.sub_s, Re.mul_s, Re.of_s, Rat.intCast_mul, Rat.intCast_add, ic1]
  grind
theorem v2_neg {V W M : Rat} : v2 (-V) (-W) M = -v2 V W M := Re.ext fun n => by simp only [v2, Re.add_s, Re.mul_s, Re.of_s, Re.neg_s]; grind
theorem bd_lo {V W M : Rat} (hM : 0 ≤ M) : 0 ≤ sgn (Re.of (bdI V W M : Int) - -v2 V W M) := by
  have h := bd_hi (V := -V) (W := -W) hM
  rw [v2_neg] at h
  simpa [bdI, Rat.neg_num] using h
theorem bdI_nn (V W M : Rat) : 0 ≤ bdI V W M := by
  unfold bdI
  have : 0 ≤ (W.num.natAbs : Int) * ((M.num.natAbs : Int) + 1) := Int.mul_nonneg (by omega) (by omega)
  omega
theorem v2_conj {V W M : Rat} (hM : 0 ≤ M) : null (v2 V W M * v2 V (-W) M - Re.of (V * V - W * W * M)) := by
  have e : v2 V W M * v2 V (-W) M - Re.of (V * V - W * W * M) = Re.of (-(W * W)) * (rt M * rt M - Re.of M) := Re.ext fun n => by
    simp only [v2, Re.add_s, Re.sub_s, Re.mul_s, Re.of_s]; grind
  rw [e]; exact null_mul' _ (rt_sq hM)
theorem cast_pos {n : Int} (h : 0 < n) : (1 : Rat) ≤ (n : Rat) := by
  have : ((1 : Int) : Rat) ≤ (n : Rat) := by exact_mod_cast (show (1 : Int) ≤ n by omega)
  rwa [ic1] at this
theorem sgn_mul0 {x y : Re} (h : null (x * y)) (hx : sgn x = 1) : null y := by
  have := sgn_null h
  rw [sgn_mul, hx, Int.one_mul] at this
  exact sgn_zero.1 this
theorem sep2 {V W M : Rat} {k l m : Nat} [SzR V k] [SzR W l] [SzR M m] (hM : 0 ≤ M) (h : sgn (v2 V W M) = 1) :
    ∃ q : Int, 0 < q ∧ SzI q (k + k + (l + l + m) + 1 + (k + (l + m + 1 + 1) + 1)) ∧ 0 ≤ sgn (Re.of q * v2 V W M - Re.of 1) := by
  have hN := v2_conj (V := V) (W := W) hM
  by_cases hr : V * V - W * W * M = 0
  · have hy : null (v2 V (-W) M) := by
      refine sgn_mul0 ?_ h
      have e : v2 V W M * v2 V (-W) M = v2 V W M * v2 V (-W) M - Re.of (V * V - W * W * M) := Re.ext fun n => by rw [hr]; simp only [Re.sub_s, Re.of_s]; grind
      rw [e]; exact hN
    have hV : 0 < V := by
      have h1 : sgn (v2 V W M + v2 V (-W) M) = 1 := by rw [sgn_add_null _ hy]; exact h
      have e : v2 V W M + v2 V (-W) M = Re.of (V + V) := Re.ext fun n => by simp only [v2, Re.add_s, Re.mul_s, Re.of_s]; grind
      rw [e, sgn_of] at h1
      have := (sgnQ_gtz (V + V)).symm ▸ (show 0 < sgnQ (V + V) by omega)
      grind
    have hn : 0 < V.num := num_pos_iff.2 hV
    refine ⟨(V.den : Int), by have := V.den_pos; omega, (inferInstance : SzI (V.den : Int) k).mono (by omega), ?_⟩
    have c1 := cast_pos hn
    have c2 := den_mul V
    refine nn_null (x := Re.of ((V.num : Rat) + V.num - 1)) (z := -(Re.of (((V.den : Int) : Rat)) * v2 V (-W) M)) (null_neg (null_mul' _ hy)) (fun n => ?_) (nn_of.2 (by grind))
    simp only [v2, Re.add_s, Re.sub_s, Re.mul_s, Re.of_s, Re.neg_s, Rat.intCast_natCast]
    grind
  · have hK := bdI_nn V (-W) M
    generalize hrr : V * V - W * W * M = r at *
    haveI sr : SzR r (k + k + (l + l + m) + 1) := by rw [← hrr]; exact (inferInstance : SzR _ _).mono (by omega)
    have hq0 := r.den_pos
    have sK : SzI (bdI V (-W) M) (k + (l + m + 1 + 1) + 1) := by
      unfold bdI
      have : SzI (M.num.natAbs + 1 : Int) (m + 1 + 1) := (inferInstance : SzI _ (max m 1 + 1)).mono (by omega)
      exact (inferInstance : SzI _ _).mono (by omega)
    have key : ∀ s : Int, (s = 1 ∨ s = -1) → 0 < s * r.num → ∃ q : Int, 0 < q ∧ SzI q (k + k + (l + l + m) + 1 + (k + (l + m + 1 + 1) + 1)) ∧ 0 ≤ sgn (Re.of q * v2 V W M - Re.of 1) := by
      intro s hs hsr
      have hKs : 0 ≤ sgn (Re.of (bdI V (-W) M : Int) - Re.of s * v2 V (-W) M) := by
        rcases hs with rfl | rfl
        · refine nn_eq (fun n => ?_) (bd_hi (V := V) (W := -W) hM)
          simp only [Re.sub_s, Re.mul_s, Re.of_s, ic1]; grind
        · refine nn_eq (fun n => ?_) (bd_lo (V := V) (W := -W) hM)
          have e1 : ((-1 : Int) : Rat) = -1 := rfl
          simp only [Re.sub_s, Re.mul_s, Re.of_s, Re.neg_s, e1]; grind
      have c1 := cast_pos hsr
      have c2 := den_mul r
      have c0 : (0 : Rat) ≤ (r.den : Rat) := nn _
      have hpos : 0 < (r.den : Int) * bdI V (-W) M := by
        refine Int.mul_pos (by omega) ?_
        rcases Int.lt_or_eq_of_le hK with hk | hk
        · exact hk
        · exfalso
          have a1 := bd_hi (V := V) (W := -W) hM
          have a2 := bd_lo (V := V) (W := -W) hM
          rw [← hk] at a1 a2
          have b1 : sgn (Re.of ((0 : Int) : Rat) - v2 V (-W) M) = sgn (-v2 V (-W) M) := by congr 1; exact Re.ext fun n => by simp only [Re.sub_s, Re.of_s, Re.neg_s]; grind
          have b2 : sgn (Re.of ((0 : Int) : Rat) - -v2 V (-W) M) = sgn (v2 V (-W) M) := by congr 1; exact Re.ext fun n => by simp only [Re.sub_s, Re.of_s, Re.neg_s]; grind
          rw [b1, sgn_neg] at a1
          rw [b2] at a2
          have h0 : null (v2 V (-W) M) := sgn_zero.1 (by omega)
          have h1 : null (Re.of r) := by
            have := null_sub (null_mul' (v2 V W M) h0) hN
            refine fun e he => ?_
            obtain ⟨N, hN'⟩ := this e he
            refine ⟨N, fun n hn => ?_⟩
            have := hN' n hn
            simp only [Re.sub_s, Re.mul_s, Re.of_s] at this ⊢
            have e2 : (v2 V W M).s n * (v2 V (-W) M).s n - ((v2 V W M).s n * (v2 V (-W) M).s n - r) = r := by grind
            rwa [e2] at this
          have := sgn_null h1
          rw [sgn_of, sgnQ_eqz] at this
          exact hr this
      refine ⟨(r.den : Int) * bdI V (-W) M, hpos, (inferInstance : SzI ((r.den : Int) * bdI V (-W) M) _).mono (by omega), ?_⟩
      refine nn_null (x := Re.of (r.den : Rat) * (v2 V W M * (Re.of (bdI V (-W) M : Int) - Re.of s * v2 V (-W) M)) + Re.of ((r.den : Rat) * s * r - 1)) (z := Re.of ((r.den : Rat) * s) * (v2 V W M * v2 V (-W) M - Re.of r)) (null_mul' _ hN) (fun n => ?_) (nn_add (nn_mul (nn_of.2 c0) (nn_mul (nn_1 h) hKs)) (nn_of.2 ?_))
      · simp only [Re.add_s, Re.sub_s, Re.mul_s, Re.of_s, Rat.intCast_mul, Rat.intCast_natCast]; grind
      · have e3 : (r.den : Rat) * s * r = ((s * r.num : Int) : Rat) := by rw [Rat.intCast_mul, ← c2]; grind
        rw [e3]; grind
    have hn : r.num ≠ 0 := num_ne hr
    rcases Int.lt_or_gt_of_ne hn with c | c
    · exact key (-1) (.inr rfl) (by omega)
    · exact key 1 (.inl rfl) (by omega)
theorem sep4 {a b c a' b' c' : Rat} {k : Nat} [SzR a k] [SzR b k] [SzR c k] [SzR a' k] [SzR b' k] [SzR c' k] (hc : 0 ≤ c) (hc' : 0 ≤ c') (h : sgn (v2 a' b' c' - v2 a b c) = 1) :
    ∃ q : Int, 0 < q ∧ SzI q (100 * k + 100) ∧ 0 ≤ sgn (Re.of q * (v2 a' b' c' - v2 a b c) - Re.of 1) := by
  have eV : v2 a' b' c' - v2 a b c = v2 (a' - a) b' c' - Re.of b * rt c := Re.ext fun n => by simp only [v2, Re.add_s, Re.sub_s, Re.mul_s, Re.of_s]; grind
  rw [eV] at h ⊢
  generalize hU : a' - a = U at *
  haveI sU : SzR U (k + k + 1) := by rw [← hU]; infer_instance
  generalize hP : v2 U b' c' = P at *
  generalize hV : U * U + b' * b' * c' - b * b * c = V at *
  haveI sV : SzR V (12 * k + 10) := by rw [← hV]; exact (inferInstance : SzR _ _).mono (by omega)
  have hN : null ((P - Re.of b * rt c) * (P + Re.of b * rt c) - v2 V (U * b' + U * b') c') := by
    have e : (P - Re.of b * rt c) * (P + Re.of b * rt c) - v2 V (U * b' + U * b') c' = Re.of (b' * b') * (rt c' * rt c' - Re.of c') - Re.of (b * b) * (rt c * rt c - Re.of c) := Re.ext fun n => by
      rw [← hV, ← hP]; simp only [v2, Re.add_s, Re.sub_s, Re.mul_s, Re.of_s]; grind
    rw [e]; exact null_sub (null_mul' _ (rt_sq hc')) (null_mul' _ (rt_sq hc))
  have hK : ∀ s : Int, (s = 1 ∨ s = -1) → 0 ≤ sgn (Re.of ((bdI U b' c' + bdI 0 b c : Int) : Rat) - Re.of s * (P + Re.of b * rt c)) := by
    intro s hs
    rcases hs with rfl | rfl
    · refine nn_eq (fun n => ?_) (nn_add (bd_hi (V := U) (W := b') hc') (bd_hi (V := 0) (W := b) hc))
      rw [← hP]; simp only [v2, Re.add_s, Re.sub_s, Re.mul_s, Re.of_s, ic1, Rat.intCast_add]; grind
    · refine nn_eq (fun n => ?_) (nn_add (bd_lo (V := U) (W := b') hc') (bd_lo (V := 0) (W := b) hc))
      have e1 : ((-1 : Int) : Rat) = -1 := rfl
      rw [← hP]; simp only [v2, Re.add_s, Re.sub_s, Re.mul_s, Re.of_s, Re.neg_s, e1, Rat.intCast_add]; grind
  have sK : SzI (bdI U b' c' + bdI 0 b c) (6 * k + 10) := by
    have s0 : SzI (c'.num.natAbs + 1 : Int) (k + 1 + 1) := (inferInstance : SzI _ (max k 1 + 1)).mono (by omega)
    have s1 : SzI (c.num.natAbs + 1 : Int) (k + 1 + 1) := (inferInstance : SzI _ (max k 1 + 1)).mono (by omega)
    unfold bdI
    exact (inferInstance : SzI _ _).mono (by omega)
  rcases sgn_cases (v2 V (U * b' + U * b') c') with ⟨_, hy⟩ | ⟨_, hy⟩ | ⟨_, hy⟩
  · obtain ⟨q, q1, q2, q3⟩ := sep2 hc' hy
    refine ⟨q * (bdI U b' c' + bdI 0 b c + 1), Int.mul_pos q1 (by have := bdI_nn U b' c'; have := bdI_nn 0 b c; omega), (inferInstance : SzI _ _).mono (by omega), ?_⟩
    have c0 : (0 : Rat) ≤ (q : Rat) := by exact_mod_cast (show 0 ≤ q by omega)
    refine nn_null (x := Re.of (q : Rat) * ((P - Re.of b * rt c) * (Re.of ((bdI U b' c' + bdI 0 b c : Int) : Rat) - Re.of ((1 : Int) : Rat) * (P + Re.of b * rt c))) + (Re.of (q : Rat) * v2 V (U * b' + U * b') c' - Re.of 1) + Re.of (q : Rat) * (P - Re.of b * rt c)) (z := Re.of (q : Rat) * ((P - Re.of b * rt c) * (P + Re.of b * rt c) - v2 V (U * b' + U * b') c')) (null_mul' _ hN) (fun n => ?_) (nn_add (nn_add (nn_mul (nn_of.2 c0) (nn_mul (nn_1 h) (hK 1 (.inl rfl)))) q3) (nn_mul (nn_of.2 c0) (nn_1 h)))
    simp only [Re.add_s, Re.sub_s, Re.mul_s, Re.of_s, Rat.intCast_mul, Rat.intCast_add, ic1]; grind
  · have hy' : sgn (v2 (-V) (-(U * b' + U * b')) c') = 1 := by rw [v2_neg, sgn_neg, hy]; rfl
    obtain ⟨q, q1, q2, q3⟩ := sep2 hc' hy'
    refine ⟨q * (bdI U b' c' + bdI 0 b c + 1), Int.mul_pos q1 (by have := bdI_nn U b' c'; have := bdI_nn 0 b c; omega), (inferInstance : SzI _ _).mono (by omega), ?_⟩
    have c0 : (0 : Rat) ≤ (q : Rat) := by exact_mod_cast (show 0 ≤ q by omega)
    have e1 : ((-1 : Int) : Rat) = -1 := rfl
    rw [v2_neg] at q3
    refine nn_null (x := Re.of (q : Rat) * ((P - Re.of b * rt c) * (Re.of ((bdI U b' c' + bdI 0 b c : Int) : Rat) - Re.of ((-1 : Int) : Rat) * (P + Re.of b * rt c))) + (Re.of (q : Rat) * -v2 V (U * b' + U * b') c' - Re.of 1) + Re.of (q : Rat) * (P - Re.of b * rt c)) (z := Re.of (-(q : Rat)) * ((P - Re.of b * rt c) * (P + Re.of b * rt c) - v2 V (U * b' + U * b') c')) (null_mul' _ hN) (fun n => ?_) (nn_add (nn_add (nn_mul (nn_of.2 c0) (nn_mul (nn_1 h) (hK (-1) (.inr rfl)))) q3) (nn_mul (nn_of.2 c0) (nn_1 h)))
    simp only [Re.add_s, Re.sub_s, Re.mul_s, Re.of_s, Re.neg_s, Rat.intCast_mul, Rat.intCast_add, ic1, e1]; grind
  · have hz : null (P + Re.of b * rt c) := by
      refine sgn_mul0 ?_ h
      have e : (P - Re.of b * rt c) * (P + Re.of b * rt c) = ((P - Re.of b * rt c) * (P + Re.of b * rt c) - v2 V (U * b' + U * b') c') + v2 V (U * b' + U * b') c' := Re.ext fun n => by simp only [Re.add_s, Re.sub_s, Re.mul_s]; grind
      rw [e]; exact null_add hN (sgn_zero.1 hy)
    have hp : sgn (v2 U b' c') = 1 := by
      have h1 : sgn (P - Re.of b * rt c + (P + Re.of b * rt c)) = 1 := by rw [sgn_add_null _ hz]; exact h
      have e : P - Re.of b * rt c + (P + Re.of b * rt c) = Re.of 2 * v2 U b' c' := Re.ext fun n => by rw [← hP]; simp only [v2, Re.add_s, Re.sub_s, Re.mul_s, Re.of_s]; grind
      rw [e, sgn_mul, sgn_of, sgnQ_pos (by decide), Int.one_mul] at h1
      exact h1
    obtain ⟨q, q1, q2, q3⟩ := sep2 hc' hp
    rw [hP] at q3
    refine ⟨q, q1, q2.mono (by omega), ?_⟩
    refine nn_null (x := Re.of 2 * (Re.of (q : Rat) * P - Re.of 1) + Re.of 1) (z := -(Re.of (q : Rat) * (P + Re.of b * rt c))) (null_neg (null_mul' _ hz)) (fun n => ?_) (nn_add (nn_mul (nn_of.2 (by decide)) q3) (nn_of.2 (by decide)))
    simp only [Re.add_s, Re.sub_s, Re.mul_s, Re.of_s, Re.neg_s]; grind
end Go.PL

set_option linter.unusedSimpArgs false
set_option linter.unusedVariables false
namespace Go.PL
open Go.RL
def Rdc (b c : Rat) : Prop := 0 ≤ c ∧ (b = 0 ∨ sqB c = false)
theorem irr {u b c : Rat} (hb : b ≠ 0) (hc : 0 ≤ c) (hs : sqB c = false) : sgn (v2 u b c) ≠ 0 := by
  intro h0
  have h1 := null_sub (null_mul (sgn_zero.1 h0) (v2 u (-b) c)) (v2_conj (V := u) (W := b) hc)
  have e : v2 u b c * v2 u (-b) c - (v2 u b c * v2 u (-b) c - Re.of (u * u - b * b * c)) = Re.of (u * u - b * b * c) := Re.ext fun n => by simp only [Re.sub_s, Re.mul_s, Re.of_s]; grind
  rw [e] at h1
  have h2 := sgn_null h1
  rw [sgn_of, sgnQ_eqz] at h2
  have h3 : (u / b) * (u / b) = c := by
    have hb2 : b * b ≠ 0 := fun q => by rcases Rat.mul_eq_zero.1 q with q | q <;> exact hb q
    have h4 : u / b * b = u := Rat.div_mul_cancel hb
    generalize u / b = w at *
    have h5 : (w * w - c) * (b * b) = 0 := by rw [← h4] at h2; grind
    rcases Rat.mul_eq_zero.1 h5 with q | q
    · grind
    · exact absurd q hb2
  have := sqB_of h3
  rw [hs] at this; cases this
theorem flR_lt {a b c : Rat} (h : Rdc b c) : sgn (v2 (a - ((flR a b c : Int) + 1)) b c) = -1 := by
  obtain ⟨hc, h⟩ := h
  obtain ⟨_, h2⟩ := flR_spec (a := a) (b := b) hc
  have h1 : sgn (v2 (a - ((flR a b c : Int) + 1)) b c) ≠ 0 := by
    by_cases hb : b = 0
    · rw [hb, v2_b0, sgn_of, flR_z rfl]
      have := lt_fl a
      have : a - ((a.floor : Rat) + 1) < 0 := by grind
      rw [← sgnQ_ltz] at this; omega
    · exact irr hb hc (h.resolve_left hb)
  have := sgn_cases (v2 (a - ((flR a b c : Int) + 1)) b c)
  rcases this with ⟨_, q⟩ | ⟨_, q⟩ | ⟨_, q⟩ <;> omega
theorem v2_shift (a b c z : Rat) : v2 (a - z) b c = v2 a b c - Re.of z := Re.ext fun n => by simp only [v2, Re.add_s, Re.sub_s, Re.mul_s, Re.of_s]; grind
theorem sgn_pos1 {x : Re} (h : 0 ≤ sgn (x - Re.of 1)) : sgn x = 1 := by
  have h1 : sgn (Re.of 1) = 1 := by rw [sgn_of]; rfl
  have := (nonneg_add h (show 0 ≤ sgn (Re.of 1) by omega)).2.1 (.inr (by omega))
  have e : x - Re.of 1 + Re.of 1 = x := Re.ext fun n => by simp only [Re.add_s, Re.sub_s, Re.of_s]; grind
  rwa [e] at this
theorem sgn_add_nn {x y : Re} (h : sgn x = 1) (h' : 0 ≤ sgn y) : sgn (x + y) = 1 := (nonneg_add (by omega) h').2.1 (.inl (by omega))
theorem v2_mono_neg {a b c z z' : Rat} (h : sgn (v2 (a - z) b c) = -1) (hz : z ≤ z') : sgn (v2 (a - z') b c) = -1 := by
  have h1 : sgn (-v2 (a - z) b c + Re.of (z' - z)) = 1 := sgn_add_nn (by rw [sgn_neg]; omega) (nn_of.2 (by grind))
  have e : v2 (a - z') b c = -(-v2 (a - z) b c + Re.of (z' - z)) := Re.ext fun n => by simp only [v2, Re.add_s, Re.neg_s, Re.mul_s, Re.of_s]; grind
  rw [e, sgn_neg, h1]
theorem v2_mono_pos {a b c z z' : Rat} (h : sgn (v2 (a - z) b c) = 1) (hz : z' ≤ z) : sgn (v2 (a - z') b c) = 1 := by
  have h1 : sgn (v2 (a - z) b c + Re.of (z - z')) = 1 := sgn_add_nn h (nn_of.2 (by grind))
  have e : v2 (a - z') b c = v2 (a - z) b c + Re.of (z - z') := Re.ext fun n => by simp only [v2, Re.add_s, Re.mul_s, Re.of_s]; grind
  rw [e, h1]
def Btw (a b c a' b' c' z : Rat) : Prop := sgn (v2 (a - z) b c) = -1 ∧ sgn (v2 (a' - z) b' c') = 1
theorem Btw.conv {a b c a' b' c' u v w : Rat} (hu : Btw a b c a' b' c' u) (hw : Btw a b c a' b' c' w) (h : u ≤ v) (h' : v ≤ w) : Btw a b c a' b' c' v :=
  ⟨v2_mono_neg hu.1 h, v2_mono_pos hw.2 h'⟩
theorem Rdc.scale {b c : Rat} (h : Rdc b c) (q : Rat) : Rdc (b * q) c := ⟨h.1, h.2.imp (fun e => by rw [e]; grind) id⟩
theorem flR_sz {a b c : Rat} {k l m : Nat} [SzR a k] [SzR b l] [SzR c m] (h : Rdc b c) : SzI (flR a b c) (k + l + m + 5) := by
  obtain ⟨f1, _⟩ := flR_spec (a := a) (b := b) h.1
  have f2 := flR_lt (a := a) h
  have b1 := bd_hi (V := a) (W := b) h.1
  have b2 := bd_lo (V := a) (W := b) h.1
  have b0 := bdI_nn a b c
  generalize flR a b c = f at *
  have h1 : f ≤ bdI a b c := by
    have h2 : 0 ≤ sgn (Re.of ((bdI a b c : Int) : Rat) - Re.of (f : Rat)) := nn_eq (fun n => by simp only [v2, Re.add_s, Re.sub_s, Re.mul_s, Re.of_s]; grind) (nn_add b1 f1)
    rw [← Re.of_sub, nn_of] at h2
    have h3 : (f : Rat) ≤ ((bdI a b c : Int) : Rat) := by grind
    exact_mod_cast h3
  have h2 : -(bdI a b c + 1) ≤ f := by
    have h2 : 0 ≤ sgn (Re.of ((bdI a b c : Int) : Rat) + Re.of ((f : Rat) + 1)) := nn_eq (fun n => by simp only [v2, Re.add_s, Re.sub_s, Re.mul_s, Re.of_s, Re.neg_s]; grind) (nn_add b2 (show 0 ≤ sgn (-v2 (a - ((f : Rat) + 1)) b c) by rw [sgn_neg]; omega))
    rw [← Re.of_add, nn_of] at h2
    have h3 : ((-(bdI a b c + 1) : Int) : Rat) ≤ (f : Rat) := by rw [Rat.intCast_neg, Rat.intCast_add, ic1]; grind
    exact_mod_cast h3
  have sK : SzI (bdI a b c + 1) (k + l + m + 5) := by
    have s0 : SzI (c.num.natAbs + 1 : Int) (m + 1 + 1) := (inferInstance : SzI _ (max m 1 + 1)).mono (by omega)
    have s1 : SzI (bdI a b c) (k + (l + (m + 1 + 1)) + 1) := by unfold bdI; exact (inferInstance : SzI _ _).mono (by omega)
    exact (inferInstance : SzI _ (max (k + (l + (m + 1 + 1)) + 1) 1 + 1)).mono (by omega)
  exact sK.le_of (by omega)
theorem dens {a b c a' b' c' : Rat} {k : Nat} [SzR a k] [SzR b k] [SzR c k] [SzR a' k] [SzR b' k] [SzR c' k] (h : Rdc b c) (hc' : 0 ≤ c') (hs : sgn (v2 a' b' c' - v2 a b c) = 1) :
    ∃ z : Rat, Btw a b c a' b' c' z ∧ SzI (z.den : Int) (100 * k + 101) ∧ SzI z.num (210 * k + 220) := by
  obtain ⟨q, q1, q2, q3⟩ := sep4 h.1 hc' hs
  obtain ⟨f1, _⟩ := flR_spec (a := a * ((2 * q : Int) : Rat)) (b := b * ((2 * q : Int) : Rat)) h.1
  have f2 := flR_lt (a := a * ((2 * q : Int) : Rat)) (h.scale ((2 * q : Int) : Rat))
  haveI s1 : SzR ((2 * q : Int) : Rat) (100 * k + 101) := SzR.int ((inferInstance : SzI (2 * q) _).mono (by omega)) (by omega)
  have s2 : SzI (flR (a * ((2 * q : Int) : Rat)) (b * ((2 * q : Int) : Rat)) c) (205 * k + 210) := (flR_sz (h.scale _)).mono (by omega)
  generalize flR (a * ((2 * q : Int) : Rat)) (b * ((2 * q : Int) : Rat)) c = f at *
  have hq : (2 * q : Int) ≠ 0 := by omega
  have em := divInt_mul (n := f + 1) hq
  have e2 : ((2 : Int) : Rat) = 2 := rfl
  have hq1 := cast_pos q1
  refine ⟨Rat.divInt (f + 1) (2 * q), ⟨?_, ?_⟩, ?_, ?_⟩
  rotate_left 2
  · exact ((inferInstance : SzI (2 * q) _).mono (by omega)).le_of (by have := (divInt_le (f + 1) (2 * q) hq).2; omega)
  · exact ((inferInstance : SzI (f + 1) _).mono (by omega)).le_of (divInt_le (f + 1) (2 * q) hq).1
  · rw [Rat.intCast_add, ic1] at em
    generalize Rat.divInt (f + 1) (2 * q) = z at *
    have e : v2 (a * ((2 * q : Int) : Rat) - ((f : Rat) + 1)) (b * ((2 * q : Int) : Rat)) c = Re.of ((2 * q : Int) : Rat) * v2 (a - z) b c := Re.ext fun n => by rw [← em]; simp only [v2, Re.add_s, Re.mul_s, Re.of_s]; grind
    rw [e, sgn_mul, sgn_of, sgnQ_pos (by rw [Rat.intCast_mul, e2]; grind), Int.one_mul] at f2
    exact f2
  · rw [Rat.intCast_add, ic1] at em
    generalize Rat.divInt (f + 1) (2 * q) = z at *
    have h1 : sgn (Re.of ((2 * q : Int) : Rat) * v2 (a' - z) b' c') = 1 := by
      refine sgn_pos1 (nn_eq (fun n => ?_) (nn_add (nn_mul (nn_of.2 (show (0 : Rat) ≤ 2 by decide)) q3) f1))
      rw [Rat.intCast_mul, e2] at em ⊢
      simp only [v2, Re.add_s, Re.sub_s, Re.mul_s, Re.of_s]; grind
    rw [sgn_mul, sgn_of, sgnQ_pos (by rw [Rat.intCast_mul, e2]; grind), Int.one_mul] at h1
    exact h1
def Simp (I : Rat → Prop) (x : Rat) : Prop := I x ∧ (∀ z, I z → x.den ≤ z.den) ∧ (x.den = 1 → ∀ z, I z → z.den = 1 → x.num.natAbs ≤ z.num.natAbs)
def SimpP (I : Rat → Prop) (x : Rat) : Prop := I x ∧ ∀ z, I z → x.num ≤ z.num ∧ x.den ≤ z.den
theorem SimpP.simp {I : Rat → Prop} {x : Rat} (h : SimpP I x) (hp : ∀ z, I z → 0 ≤ z) : Simp I x :=
  ⟨h.1, fun z hz => (h.2 z hz).2, fun _ z hz _ => by
    have h1 := (h.2 z hz).1
    have h2 := Rat.num_nonneg.2 (hp x h.1)
    omega⟩
theorem Simp.neg {I J : Rat → Prop} {x : Rat} (h : Simp I x) (hJ : ∀ z, J z ↔ I (-z)) : Simp J (-x) := by
  refine ⟨(hJ _).2 (by rw [Rat.neg_neg]; exact h.1), fun z hz => ?_, fun h1 z hz h2 => ?_⟩
  · have := h.2.1 _ ((hJ z).1 hz); rwa [Rat.neg_den] at this ⊢
  · have := h.2.2 (by rwa [Rat.neg_den] at h1) _ ((hJ z).1 hz) (by rwa [Rat.neg_den])
    rwa [Rat.neg_num, Int.natAbs_neg] at this ⊢
theorem le_iff_num {x y : Rat} : x ≤ y ↔ x.num * (y.den : Int) ≤ y.num * (x.den : Int) := by
  have h1 := num_den x; have h2 := num_den y
  have d1 : (0 : Rat) < ((x.den : Int) : Rat) := by exact_mod_cast (show (0 : Int) < x.den by have := x.den_pos; omega)
  have d2 : (0 : Rat) < ((y.den : Int) : Rat) := by exact_mod_cast (show (0 : Int) < y.den by have := y.den_pos; omega)
  have e1 : ((x.num * (y.den : Int) : Int) : Rat) = x * ((x.den : Int) : Rat) * ((y.den : Int) : Rat) := by rw [Rat.intCast_mul, h1]
  have e2 : ((y.num * (x.den : Int) : Int) : Rat) = y * ((x.den : Int) : Rat) * ((y.den : Int) : Rat) := by rw [Rat.intCast_mul, ← h2]; grind
  constructor
  · intro h
    have h3 : 0 ≤ (y - x) * (((x.den : Int) : Rat) * ((y.den : Int) : Rat)) := Rat.mul_nonneg (by grind) (Rat.mul_nonneg (by grind) (by grind))
    have h4 : ((x.num * (y.den : Int) : Int) : Rat) ≤ ((y.num * (x.den : Int) : Int) : Rat) := by rw [e1, e2]; grind
    exact_mod_cast h4
  · intro h
    have h4 : ((x.num * (y.den : Int) : Int) : Rat) ≤ ((y.num * (x.den : Int) : Int) : Rat) := by exact_mod_cast h
    rw [e1, e2] at h4
    by_cases c : x ≤ y
    · exact c
    · have h3 : 0 < (x - y) * (((x.den : Int) : Rat) * ((y.den : Int) : Rat)) := Rat.mul_pos (by grind) (Rat.mul_pos d1 d2)
      grind
theorem den1 {x : Rat} (h : x.den = 1) : x = (x.num : Rat) := by
  have := den_mul x
  rw [h] at this
  simpa using this
theorem between_den {x y : Rat} (h : x < y) (hd : x.den = y.den) (h1 : x.den ≠ 1) : ∃ z : Rat, x ≤ z ∧ z ≤ y ∧ z.den < x.den := by
  have hpos := x.den_pos
  have hxy : x.num + 1 ≤ y.num := by
    have : ¬ y ≤ x := Rat.not_le.2 h
    rw [le_iff_num, hd] at this
    have hp := y.den_pos
    have h2 := Int.lt_of_mul_lt_mul_right (Int.not_le.1 this) (by omega)
    omega
  have hr := x.reduced
  generalize hp : x.num = p at *
  generalize hq : y.num = p2 at *
  obtain ⟨d, hdd⟩ : ∃ d : Int, d = (x.den : Int) := ⟨_, rfl⟩
  have d2 : 2 ≤ d := by omega
  have hnd : ¬ d ∣ p := fun hdv => by
    have h2 : x.den ∣ p.natAbs := by have := Int.natAbs_dvd_natAbs.2 hdv; rw [hdd] at this; simpa using this
    have h3 := Nat.Coprime.eq_one_of_dvd hr.symm h2
    exact h1 h3
  have hm := Int.mul_ediv_add_emod (p * (d - 1)) d
  have hm0 := Int.emod_nonneg (p * (d - 1)) (show d ≠ 0 by omega)
  have hm1 := Int.emod_lt_of_pos (p * (d - 1)) (show 0 < d by omega)
  have hm2 : p * (d - 1) % d ≠ 0 := fun q => by
    have h3 : d ∣ p * (d - 1) := Int.dvd_of_emod_eq_zero q
    have h4 : d ∣ p := by
      have h5 : d ∣ p * d - p * (d - 1) := Int.dvd_sub (Int.dvd_mul_left _ _) h3
      have h6 : p * d - p * (d - 1) = p := by rw [Int.mul_sub, Int.mul_one]; omega
      rwa [h6] at h5
    exact hnd h4
  generalize hk : p * (d - 1) / d = k at *
  generalize hmm : p * (d - 1) % d = r at *
  have hd1 : d - 1 ≠ 0 := by omega
  obtain ⟨z1, z2⟩ := divInt_le (k + 1) (d - 1) hd1
  have em := divInt_mul (n := k + 1) hd1
  have e1 := num_den x; have e2 := num_den y
  rw [← hdd] at e1
  rw [← hd, ← hdd] at e2
  refine ⟨Rat.divInt (k + 1) (d - 1), ?_, ?_, ?_⟩
  · generalize Rat.divInt (k + 1) (d - 1) = z at *
    have h3 : (p * (d - 1) : Int) ≤ (k + 1) * d := by rw [Int.add_mul, Int.one_mul, Int.mul_comm k d]; omega
    have h4 : ((p * (d - 1) : Int) : Rat) ≤ (((k + 1) * d : Int) : Rat) := by exact_mod_cast h3
    have dp : (0 : Rat) < (d : Rat) := by exact_mod_cast (show (0 : Int) < d by omega)
    have dp1 : (0 : Rat) < ((d - 1 : Int) : Rat) := by exact_mod_cast (show (0 : Int) < d - 1 by omega)
    rw [Rat.intCast_mul, Rat.intCast_mul, ← em] at h4
    rw [hp] at e1
    rw [← e1] at h4
    by_cases c : x ≤ z
    · exact c
    · have : 0 < (x - z) * ((d : Rat) * ((d - 1 : Int) : Rat)) := Rat.mul_pos (by grind) (Rat.mul_pos dp dp1)
      grind
  · generalize Rat.divInt (k + 1) (d - 1) = z at *
    have h2 : (p + 1) * (d - 1) ≤ p2 * (d - 1) := Int.mul_le_mul_of_nonneg_right hxy (by omega)
    have h3 : ((k + 1) * d : Int) ≤ p2 * (d - 1) := by
      rw [Int.add_mul, Int.one_mul] at h2
      rw [Int.add_mul, Int.one_mul, Int.mul_comm k d]; omega
    have h4 : (((k + 1) * d : Int) : Rat) ≤ ((p2 * (d - 1) : Int) : Rat) := by exact_mod_cast h3
    have dp : (0 : Rat) < (d : Rat) := by exact_mod_cast (show (0 : Int) < d by omega)
    have dp1 : (0 : Rat) < ((d - 1 : Int) : Rat) := by exact_mod_cast (show (0 : Int) < d - 1 by omega)
    rw [Rat.intCast_mul, Rat.intCast_mul, ← em] at h4
    rw [hq] at e2
    rw [← e2] at h4
    by_cases c : z ≤ y
    · exact c
    · have : 0 < (z - y) * ((d : Rat) * ((d - 1 : Int) : Rat)) := Rat.mul_pos (by grind) (Rat.mul_pos dp dp1)
      grind
  · omega
theorem Simp.uniq {I : Rat → Prop} (hI : ∀ u v w, I u → I w → u ≤ v → v ≤ w → I v) {x y : Rat} (hx : Simp I x) (hy : Simp I y) : x = y := by
  have hd : x.den = y.den := Nat.le_antisymm (hx.2.1 y hy.1) (hy.2.1 x hx.1)
  by_cases h1 : x.den = 1
  · have a1 := hx.2.2 h1 y hy.1 (by omega)
    have a2 := hy.2.2 (by omega) x hx.1 h1
    have e1 := den1 h1; have e2 := den1 (x := y) (by omega)
    rcases (show x.num = y.num ∨ x.num = -y.num by omega) with q | q
    · rw [e1, e2, q]
    · have z0 : I 0 := by
        rcases Int.le_total 0 x.num with c | c
        · have c1 : (0 : Rat) ≤ x := Rat.num_nonneg.1 c
          have c2 : y ≤ 0 := by have : (0 : Rat) ≤ -y := Rat.num_nonneg.1 (by rw [Rat.neg_num]; omega); grind
          exact hI y 0 x hy.1 hx.1 c2 c1
        · have c1 : x ≤ 0 := by have : (0 : Rat) ≤ -x := Rat.num_nonneg.1 (by rw [Rat.neg_num]; omega); grind
          have c2 : (0 : Rat) ≤ y := Rat.num_nonneg.1 (by omega)
          exact hI x 0 y hx.1 hy.1 c1 c2
      have b1 := hx.2.2 h1 0 z0 rfl
      have b2 : x.num = 0 := by have : (0 : Rat).num = 0 := rfl; omega
      rw [e1, e2, b2, show y.num = 0 by omega]
  · rcases Classical.em (x = y) with c | c
    · exact c
    · exfalso
      rcases Classical.em (x < y) with q | q
      · obtain ⟨z, z1, z2, z3⟩ := between_den q hd h1
        have := hx.2.1 z (hI x z y hx.1 hy.1 z1 z2); omega
      · obtain ⟨z, z1, z2, z3⟩ := between_den (x := y) (y := x) (by grind) hd.symm (by omega)
        have := hy.2.1 z (hI y z x hy.1 hx.1 z1 z2); omega
theorem inv_parts {w : Rat} (hw : 0 < w) (n : Int) : ((n : Rat) + 1 / w).num = n * w.num + w.den ∧ (((n : Rat) + 1 / w).den : Int) = w.num := by
  have hn : 0 < w.num := num_pos_iff.2 hw
  have e : (n : Rat) + 1 / w = Rat.divInt (n * w.num + w.den) w.num := by
    refine eq_divInt (by omega) ?_
    have h1 := den_mul w
    have h2 : 1 / w * w = 1 := Rat.div_mul_cancel (by grind)
    rw [Rat.intCast_add, Rat.intCast_mul, Rat.intCast_natCast, ← h1]
    generalize 1 / w = i at *
    have : ((n : Rat) + i) * (w * w.den) = n * (w * w.den) + (i * w) * w.den := by grind
    rw [this, h2]; grind
  obtain ⟨a1, a2⟩ := divInt_num (n := n * w.num + w.den) hn
  have hg : Nat.gcd (n * w.num + w.den).natAbs w.num.natAbs = 1 := by
    show Int.gcd (n * w.num + w.den) w.num = 1
    rw [Int.gcd_mul_right_add_left]
    show Nat.gcd (w.den : Int).natAbs w.num.natAbs = 1
    rw [Int.natAbs_natCast, Nat.gcd_comm]; exact w.reduced
  rw [e, a1, a2, hg]
  exact ⟨by simp, by simp⟩
theorem SimpP.den_step {I J : Rat → Prop} {n : Int} {y : Rat} (hJ : ∀ w, 0 < w → (J w ↔ I ((n : Rat) + 1 / w))) (hI : ∀ z, I z → (n : Rat) < z) (hy0 : 0 < y) (h : SimpP J y) : I ((n : Rat) + 1 / y) ∧
    ∀ z, I z → ((n : Rat) + 1 / y).den ≤ z.den ∧ (0 ≤ n → ((n : Rat) + 1 / y).num ≤ z.num) := by
  refine ⟨(hJ y hy0).1 h.1, fun z hz => ?_⟩
  have hzn := hI z hz
  have hw0 : 0 < 1 / (z - n) := div_pos (by decide) (by grind)
  have e : (n : Rat) + 1 / (1 / (z - n)) = z := by
    have h1 : 1 / (z - n) * (z - n) = 1 := Rat.div_mul_cancel (by grind)
    have h2 : 1 / (1 / (z - n)) * (1 / (z - n)) = 1 := Rat.div_mul_cancel (by grind)
    generalize 1 / (z - n) = i at *
    generalize 1 / i = j at *
    have : j = z - n := by have : j = j * (i * (z - n)) := by rw [h1]; grind
                           rw [this]; have : j * (i * (z - n)) = (j * i) * (z - n) := by grind
                           rw [this, h2]; grind
    grind
  obtain ⟨p1, p2⟩ := inv_parts hw0 n
  obtain ⟨y1, y2⟩ := inv_parts hy0 n
  rw [e] at p1 p2
  obtain ⟨m1, m2⟩ := h.2 (1 / (z - n)) ((hJ _ hw0).2 (by rw [e]; exact hz))
  refine ⟨by omega, fun hn => ?_⟩
  rw [p1, y1]
  have := Int.mul_le_mul_of_nonneg_left m1 hn
  omega
theorem step_den {n : Int} {z : Rat} (h : (n : Rat) < z) (h' : z < (n : Rat) + 1) : 0 < 1 / (z - n) ∧ (n : Rat) + 1 / (1 / (z - n)) = z ∧ (1 / (z - n)).den < z.den ∧ (1 / (z - n)).num = z.den := by
  have hw0 : 0 < 1 / (z - n) := div_pos (by decide) (by grind)
  have e : (n : Rat) + 1 / (1 / (z - n)) = z := by
    have h1 : 1 / (z - n) * (z - n) = 1 := Rat.div_mul_cancel (by grind)
    have h2 : 1 / (1 / (z - n)) * (1 / (z - n)) = 1 := Rat.div_mul_cancel (by grind)
    generalize 1 / (z - n) = i at *
    generalize 1 / i = j at *
    have : j = z - n := by have : j = j * (i * (z - n)) := by rw [h1]; grind
                           rw [this]; have : j * (i * (z - n)) = (j * i) * (z - n) := by grind
                           rw [this, h2]; grind
    grind
  obtain ⟨p1, p2⟩ := inv_parts hw0 n
  rw [e] at p1 p2
  have h3 : ¬ ((n + 1 : Int) : Rat) ≤ z := Rat.not_le.2 (by rw [Rat.intCast_add, ic1]; exact h')
  rw [le_iff_num] at h3
  have h4 : ((n + 1 : Int) : Rat).num = n + 1 := rfl
  have h5 : (((n + 1 : Int) : Rat).den : Int) = 1 := rfl
  rw [h4, h5] at h3
  refine ⟨hw0, e, ?_, by omega⟩
  rw [p1, ← p2, Int.add_mul, Int.one_mul] at h3
  omega
theorem SimpP.next {I : Rat → Prop} {n : Int} (h : I ((n + 1 : Int) : Rat)) (hn : 0 ≤ n) (hI : ∀ z, I z → (n : Rat) < z) : SimpP I ((n + 1 : Int) : Rat) := by
  refine ⟨h, fun z hz => ?_⟩
  have h1 := hI z hz
  have h2 : ¬ z ≤ (n : Rat) := Rat.not_le.2 h1
  rw [le_iff_num] at h2
  have h3 : ((n : Int) : Rat).num = n := rfl
  have h4 : (((n : Int) : Rat).den : Int) = 1 := rfl
  rw [h3, h4] at h2
  have hd := z.den_pos
  have h5 : n * 1 ≤ n * (z.den : Int) := Int.mul_le_mul_of_nonneg_left (by omega) hn
  exact ⟨by show n + 1 ≤ z.num; omega, hd⟩
end Go.PL

set_option linter.unusedSimpArgs false
set_option linter.unusedVariables false
namespace Go.PL
open Go.RL
def Fit (K : Int) (d : Nat) (A B c : Rat) : Prop := ∃ X Y Z β R : Int, X ≠ 0 ∧ 2 * (X : Rat) * A = -(Y : Rat) ∧ (X : Rat) * (A * A - B * B * c) = (Z : Rat) ∧ (X : Rat) * B = (β : Rat) ∧
  (X.natAbs : Int) + d * R ≤ K ∧ (Y.natAbs : Int) ≤ 3 * K ∧ (β.natAbs : Int) ≤ K ∧ 0 ≤ R ∧ 0 ≤ sgn (Re.of (R : Rat) - Re.of (2 * (β : Rat)) * rt c) ∧ 0 ≤ sgn (Re.of (R : Rat) + Re.of (2 * (β : Rat)) * rt c)
theorem Fit.mono {K : Int} {d d' : Nat} {A B c : Rat} (h : Fit K d A B c) (hd : d' ≤ d) : Fit K d' A B c := by
  obtain ⟨X, Y, Z, β, R, h1, h2, h3, h4, h5, h6, h7, h8, h9⟩ := h
  refine ⟨X, Y, Z, β, R, h1, h2, h3, h4, ?_, h6, h7, h8, h9⟩
  have := Int.mul_le_mul_of_nonneg_right (show (d' : Int) ≤ d by omega) h8
  omega
theorem Fit.monoK {K K' : Int} {d : Nat} {A B c : Rat} (h : Fit K d A B c) (hd : K ≤ K') : Fit K' d A B c := by
  obtain ⟨X, Y, Z, β, R, h1, h2, h3, h4, h5, h6, h7, h8, h9⟩ := h
  exact ⟨X, Y, Z, β, R, h1, h2, h3, h4, by omega, by omega, by omega, h8, h9⟩
theorem Fit.nn {K : Int} {d : Nat} {A B c : Rat} (h : Fit K d A B c) : 0 ≤ K := by
  obtain ⟨X, Y, Z, β, R, h1, h2, h3, h4, h5, h6, h7, h8, h9⟩ := h
  omega
theorem of_le {p q : Rat} (h : 0 ≤ sgn (Re.of q - Re.of p)) : p ≤ q := by rw [← Re.of_sub, nn_of] at h; grind
theorem Fit.step {K : Int} {d : Nat} {A B c : Rat} (h : Fit K (d + 1) A B c) (hc : 0 ≤ c) (n : Int) (t0 : 0 ≤ sgn (v2 (A - n) B c)) (t1 : 0 ≤ sgn (Re.of 1 - v2 (A - n) B c)) {N : Rat} (hN : N = (A - n) * (A - n) - B * B * c) (hN0 : N ≠ 0) :
    Fit K d ((A - n) * (1 / N)) (-B * (1 / N)) (rC (-B * (1 / N)) c) := by
  obtain ⟨X, Y, Z, β, R, h1, h2, h3, h4, h5, h6, h7, h8, h9, h10⟩ := h
  have hi : 1 / N * N = 1 := Rat.div_mul_cancel hN0
  generalize 1 / N = i at *
  have eX : ((X * n * n + Y * n + Z : Int) : Rat) = X * N := by
    rw [Rat.intCast_add, Rat.intCast_add, Rat.intCast_mul, Rat.intCast_mul, Rat.intCast_mul, ← h3, hN]
    have : (Y : Rat) = -(2 * (X : Rat) * A) := by rw [h2, Rat.neg_neg]
    rw [this]; grind
  have eY : ((2 * n * X + Y : Int) : Rat) = -(2 * (X : Rat) * (A - n)) := by
    have e2 : ((2 : Int) : Rat) = 2 := rfl
    rw [Rat.intCast_add, Rat.intCast_mul, Rat.intCast_mul, e2]
    have : (Y : Rat) = -(2 * (X : Rat) * A) := by rw [h2, Rat.neg_neg]
    rw [this]; grind
  have hX0 : (X : Rat) ≠ 0 := cast_ne h1
  obtain ⟨g1, g2⟩ := natAbs_ge X
  have g0 := natAbs_nn X
  have r0 : (0 : Rat) ≤ (R : Rat) := by exact_mod_cast h8
  have hnull : null (Re.of (X * (B * B)) * (rt c * rt c - Re.of c)) := null_mul' _ (rt_sq hc)
  have t2 : 0 ≤ sgn (Re.of 1 + v2 (A - n) B c) := nn_add (nn_of.2 (by decide)) t0
  have b4 : (β : Rat) = X * B := h4.symm
  have hXb : ((X * n * n + Y * n + Z).natAbs : Int) ≤ X.natAbs + R := by
    have u1 : X * n * n + Y * n + Z ≤ X.natAbs + R := by
      have : ((X * n * n + Y * n + Z : Int) : Rat) ≤ ((X.natAbs + R : Int) : Rat) := by
        refine of_le (nn_null (z := -(Re.of (X * (B * B)) * (rt c * rt c - Re.of c))) (null_neg hnull) (fun m => ?_)
          (nn_add (nn_add (nn_mul (nn_of.2 g0) (nn_mul t1 t2)) (nn_mul (nn_of.2 (show 0 ≤ ((X.natAbs : Int) : Rat) - X by grind)) (nn_mul t0 t0))) (nn_add (nn_mul (nn_of.2 r0) t1) (nn_mul h10 t0))))
        rw [eX, hN, b4]
        simp only [v2, Re.add_s, Re.sub_s, Re.mul_s, Re.of_s, Re.neg_s, Rat.intCast_add]
        grind
      exact_mod_cast this
    have u2 : -(X * n * n + Y * n + Z) ≤ X.natAbs + R := by
      have : ((-(X * n * n + Y * n + Z) : Int) : Rat) ≤ ((X.natAbs + R : Int) : Rat) := by
        refine of_le (nn_null (z := Re.of (X * (B * B)) * (rt c * rt c - Re.of c)) hnull (fun m => ?_)
          (nn_add (nn_add (nn_mul (nn_of.2 g0) (nn_mul t1 t2)) (nn_mul (nn_of.2 (show 0 ≤ ((X.natAbs : Int) : Rat) + X by grind)) (nn_mul t0 t0))) (nn_add (nn_mul (nn_of.2 r0) t1) (nn_mul h9 t0))))
        rw [Rat.intCast_neg, eX, hN, b4]
        simp only [v2, Re.add_s, Re.sub_s, Re.mul_s, Re.of_s, Re.neg_s, Rat.intCast_add]
        grind
      exact_mod_cast this
    omega
  have hYb : ((2 * n * X + Y).natAbs : Int) ≤ 2 * X.natAbs + R := by
    have e2 : ((2 : Int) : Rat) = 2 := rfl
    have u1 : 2 * n * X + Y ≤ 2 * X.natAbs + R := by
      have : ((2 * n * X + Y : Int) : Rat) ≤ ((2 * X.natAbs + R : Int) : Rat) := by
        refine of_le (nn_eq (fun m => ?_) (nn_add (nn_mul (nn_of.2 (show (0 : Rat) ≤ 2 * ((X.natAbs : Int) : Rat) by grind)) t1) (nn_add (nn_mul (nn_of.2 (show 0 ≤ 2 * (((X.natAbs : Int) : Rat) + X) by grind)) t0) h9)))
        rw [eY, b4]
        simp only [v2, Re.add_s, Re.sub_s, Re.mul_s, Re.of_s, Re.neg_s, Rat.intCast_add, Rat.intCast_mul, e2]
        grind
      exact_mod_cast this
    have u2 : -(2 * n * X + Y) ≤ 2 * X.natAbs + R := by
      have : ((-(2 * n * X + Y) : Int) : Rat) ≤ ((2 * X.natAbs + R : Int) : Rat) := by
        refine of_le (nn_eq (fun m => ?_) (nn_add (nn_mul (nn_of.2 (show (0 : Rat) ≤ 2 * ((X.natAbs : Int) : Rat) by grind)) t1) (nn_add (nn_mul (nn_of.2 (show 0 ≤ 2 * (((X.natAbs : Int) : Rat) - X) by grind)) t0) h10)))
        rw [Rat.intCast_neg, eY, b4]
        simp only [v2, Re.add_s, Re.sub_s, Re.mul_s, Re.of_s, Re.neg_s, Rat.intCast_add, Rat.intCast_mul, e2]
        grind
      exact_mod_cast this
    omega
  have hrc : ∀ p : Rat, (-B * i) * (-B * i) * rC (-B * i) c = (-B * i) * (-B * i) * c := by
    intro p
    by_cases q : -B * i = 0
    · rw [q]; grind
    · rw [rC_n q]
  have hRc : ∀ s : Rat, 0 ≤ sgn (Re.of (R : Rat) + Re.of (s * (β : Rat)) * rt c) → 0 ≤ sgn (Re.of (R : Rat) + Re.of (s * (β : Rat)) * rt (rC (-B * i) c)) := by
    intro s hs
    by_cases q : -B * i = 0
    · have hB : B = 0 := by
        rcases Rat.mul_eq_zero.1 q with q | q
        · grind
        · rw [q] at hi; grind
      rw [hB, Rat.mul_zero] at b4
      refine nn_eq (fun m => ?_) (nn_of.2 r0)
      rw [b4]; simp only [Re.add_s, Re.mul_s, Re.of_s]; grind
    · rw [rC_n q]; exact hs
  have hd : ((d + 1 : Nat) : Int) * R = d * R + R := by rw [Int.natCast_add, Int.add_mul]; simp
  have hdn : 0 ≤ (d : Int) * R := Int.mul_nonneg (by omega) h8
  rw [hd] at h5
  refine ⟨X * n * n + Y * n + Z, 2 * n * X + Y, X, -β, R, ?_, ?_, ?_, ?_, ?_, ?_, by omega, h8, ?_, ?_⟩
  · intro q
    rw [q] at eX
    have : (X : Rat) * N = 0 := eX.symm
    rcases Rat.mul_eq_zero.1 this with q | q <;> contradiction
  · rw [eX, eY]; grind
  · rw [eX, hrc 0]
    have : (X : Rat) * N * ((A - n) * i * ((A - n) * i) - -B * i * (-B * i) * c) = X * (N * i) * (i * ((A - n) * (A - n) - B * B * c)) := by grind
    rw [this, ← hN, hi, Rat.mul_comm N i, hi]; grind
  · rw [eX, Rat.intCast_neg, b4]; grind
  · omega
  · omega
  · have := hRc 2 h10
    refine nn_eq (fun m => ?_) this
    simp only [Re.add_s, Re.sub_s, Re.mul_s, Re.of_s, Rat.intCast_neg]; grind
  · have h9' : 0 ≤ sgn (Re.of (R : Rat) + Re.of (-2 * (β : Rat)) * rt c) := nn_eq (fun m => by simp only [Re.add_s, Re.sub_s, Re.mul_s, Re.of_s]; grind) h9
    refine nn_eq (fun m => ?_) (hRc (-2) h9')
    simp only [Re.add_s, Re.sub_s, Re.mul_s, Re.of_s, Rat.intCast_neg]; grind
theorem Fit.size {K : Int} {d k : Nat} {A B c : Rat} (h : Fit K d A B c) (hK : SzI K k) : SzR A (k + 1) ∧ SzR B (k + 1) := by
  obtain ⟨X, Y, Z, β, R, h1, h2, h3, h4, h5, h6, h7, h8, _⟩ := h
  have hd : 0 ≤ (d : Int) * R := Int.mul_nonneg (by omega) h8
  have hK' : SzI (3 * K) (k + 1) := by
    have : SzI (3 : Int) 1 := szi_lit (by decide)
    exact (inferInstance : SzI (3 * K) (1 + k)).mono (by omega)
  constructor
  · have e : A = Rat.divInt (-Y) (2 * X) := eq_divInt (by omega) (by
      have e2 : ((2 : Int) : Rat) = 2 := rfl
      rw [Rat.intCast_mul, Rat.intCast_neg, e2, ← h2, Rat.mul_comm])
    rw [e]
    exact (divInt_size (k := k + 1) (l := k + 1) (h := hK'.le_of (by omega)) (h' := hK'.le_of (by omega)) (by omega)).mono (by omega)
  · have e : B = Rat.divInt β X := eq_divInt h1 (by rw [← h4, Rat.mul_comm])
    rw [e]
    exact (divInt_size (k := k + 1) (l := k + 1) (h := hK'.le_of (by omega)) (h' := hK'.le_of (by omega)) h1).mono (by omega)
theorem Fit.start (A B c : Rat) (hc : 0 ≤ c) {k : Nat} [SzR A k] [SzR B k] [SzR c k] (d kd : Nat) (hd : SzI (d : Int) kd) : ∃ K : Int, SzI K (7 * k + kd + 10) ∧ Fit K d A B c := by
  obtain ⟨q, hq⟩ : ∃ q : Int, q = A.den := ⟨_, rfl⟩
  obtain ⟨s, hs⟩ : ∃ s : Int, s = B.den := ⟨_, rfl⟩
  obtain ⟨v, hv⟩ : ∃ v : Int, v = c.den := ⟨_, rfl⟩
  have iq : SzI q k := by rw [hq]; infer_instance
  have is : SzI s k := by rw [hs]; infer_instance
  have iv : SzI v k := by rw [hv]; infer_instance
  have q0 : 0 < q := by have := A.den_pos; omega
  have s0 : 0 < s := by have := B.den_pos; omega
  have v0 : 0 < v := by have := c.den_pos; omega
  have eA := num_den A; have eB := num_den B; have eC := num_den c
  rw [← hq] at eA; rw [← hs] at eB; rw [← hv] at eC
  have sX : SzI (q * q * (s * s) * v) (5 * k) := (inferInstance : SzI _ _).mono (by omega)
  have sY : SzI (-(2 * (A.num * q * (s * s) * v))) (5 * k + 1) := (inferInstance : SzI _ _).mono (by omega)
  have sβ : SzI (q * q * s * B.num * v) (5 * k) := (inferInstance : SzI _ _).mono (by omega)
  have sc : SzI (c.num.natAbs + 1 : Int) (k + 1 + 1) := (inferInstance : SzI _ (max k 1 + 1)).mono (by omega)
  have sR : SzI (2 * ((q * q * s * B.num * v).natAbs * (c.num.natAbs + 1 : Int))) (6 * k + 3) := (inferInstance : SzI _ _).mono (by omega)
  have hR0 : 0 ≤ ((q * q * s * B.num * v).natAbs : Int) * (c.num.natAbs + 1 : Int) := Int.mul_nonneg (by omega) (by omega)
  have hphi := part_hi (W := ((q * q * s * B.num * v : Int) : Rat)) hc
  have hplo := part_hi (W := ((-(q * q * s * B.num * v) : Int) : Rat)) hc
  have en : (((q * q * s * B.num * v : Int) : Rat)).num = q * q * s * B.num * v := rfl
  have en' : (((-(q * q * s * B.num * v) : Int) : Rat)).num = -(q * q * s * B.num * v) := rfl
  rw [en] at hphi
  rw [en', Int.natAbs_neg] at hplo
  have eX : ((q * q * (s * s) * v : Int) : Rat) = (q : Rat) * q * ((s : Rat) * s) * v := by simp only [Rat.intCast_mul]
  have eβ : ((q * q * s * B.num * v : Int) : Rat) = (q : Rat) * q * s * (B * s) * v := by simp only [Rat.intCast_mul, ← eB]
  have e2 : ((2 : Int) : Rat) = 2 := rfl
  generalize hr : ((q * q * s * B.num * v).natAbs : Int) * (c.num.natAbs + 1 : Int) = r at *
  have hpos : 0 < q * q * (s * s) * v := Int.mul_pos (Int.mul_pos (Int.mul_pos q0 q0) (Int.mul_pos s0 s0)) v0
  refine ⟨(((q * q * (s * s) * v).natAbs : Int) + (-(2 * (A.num * q * (s * s) * v))).natAbs) + ((q * q * s * B.num * v).natAbs : Int) + d * (2 * r), ?_, q * q * (s * s) * v, -(2 * (A.num * q * (s * s) * v)), A.num * A.num * (s * s) * v - q * q * (B.num * B.num) * c.num, q * q * s * B.num * v, 2 * r, by omega, ?_, ?_, ?_, ?_, ?_, ?_, by omega, ?_, ?_⟩
  · exact (inferInstance : SzI _ _).mono (by omega)
  · rw [eX, Rat.intCast_neg, Rat.intCast_mul, e2]; simp only [Rat.intCast_mul, ← eA]; grind
  · rw [eX]; simp only [Rat.intCast_sub, Rat.intCast_mul, ← eA, ← eB, ← eC]; grind
  · rw [eX, eβ]; grind
  · have : 0 ≤ (d : Int) * (2 * r) := Int.mul_nonneg (by omega) (by omega)
    omega
  · have : 0 ≤ (d : Int) * (2 * r) := Int.mul_nonneg (by omega) (by omega)
    omega
  · have : 0 ≤ (d : Int) * (2 * r) := Int.mul_nonneg (by omega) (by omega)
    omega
  · refine nn_eq (fun m => ?_) (nn_mul (nn_of.2 (show (0 : Rat) ≤ 2 by decide)) hphi)
    simp only [Re.sub_s, Re.mul_s, Re.of_s, Rat.intCast_mul, e2]; grind
  · refine nn_eq (fun m => ?_) (nn_mul (nn_of.2 (show (0 : Rat) ≤ 2 by decide)) hplo)
    simp only [Re.sub_s, Re.add_s, Re.mul_s, Re.of_s, Rat.intCast_mul, Rat.intCast_neg, e2]; grind
end Go.PL

set_option linter.unusedSimpArgs false
set_option linter.unusedVariables false
namespace Go.PL
open Go.RL
instance SzR.ofInt {n : Int} {k : Nat} [h : SzI n k] : SzR (n : Rat) (k + 1) := SzR.int (h.mono (by omega)) (by omega)
theorem cmpR_rat {a b c n : Rat} (hc : 0 ≤ c) : cmpR a b c n 0 0 = two (a - n) b c := by
  rw [cmpR_eq hc Rat.le_refl, two_eq hc, v2_shift, v2_b0]
def rsS (a b c : Rat) : Int := if sgnQ b = 0 ∨ sgnQ a = sgnQ b then sgnQ a else if sgnQ a = 0 then sgnQ b else sgnQ a * sgnQ (a * a - b * b * c)
theorem rsS_1 {a b c : Rat} (h : b = 0) : rsS a b c = sgnQ a := if_pos (.inl (sgnQ_zero h))
theorem rsS_2 {a b c : Rat} (h : sgnQ a = sgnQ b) : rsS a b c = sgnQ a := if_pos (.inr h)
theorem rsS_3 {a b c : Rat} (h : ¬ b = 0) (h' : ¬ sgnQ a = sgnQ b) (ha : a = 0) : rsS a b c = sgnQ b := by
  unfold rsS; rw [if_neg (by rw [sgnQ_eqz]; rintro (q | q) <;> contradiction), if_pos (sgnQ_zero ha)]
theorem rsS_4 {a b c : Rat} (h : ¬ b = 0) (h' : ¬ sgnQ a = sgnQ b) (ha : ¬ a = 0) : rsS a b c = sgnQ a * sgnQ (a * a - b * b * c) := by
  unfold rsS; rw [if_neg (by rw [sgnQ_eqz]; rintro (q | q) <;> contradiction), if_neg (by rw [sgnQ_eqz]; exact ha)]
theorem norm_ne {a b c : Rat} (h : Rdc b c) (hv : sgn (v2 a b c) ≠ 0) : a * a - b * b * c ≠ 0 := by
  intro q
  by_cases hb : b = 0
  · have ha : a * a = 0 := by rw [hb] at q; grind
    have ha : a = 0 := by rcases Rat.mul_eq_zero.1 ha with q | q <;> exact q
    rw [ha, hb, v2_b0, sgn_of] at hv
    exact hv (sgnQ_zero rfl)
  · have h1 := irr (u := a) hb h.1 (h.2.resolve_left hb)
    have h2 := v2_conj (V := a) (W := b) h.1
    rw [q] at h2
    have h3 : null (v2 a b c * v2 a (-b) c) := by
      have e : v2 a b c * v2 a (-b) c = v2 a b c * v2 a (-b) c - Re.of 0 := Re.ext fun n => by simp only [Re.sub_s, Re.of_s]; grind
      rw [e]; exact h2
    have h4 := sgn_null h3
    rw [sgn_mul] at h4
    rcases Int.mul_eq_zero.1 h4 with k | k
    · exact h1 k
    · exact irr (u := a) (b := -b) (by grind) h.1 (h.2.resolve_left hb) k
theorem rsS_ne {a b c : Rat} (h : Rdc b c) (hv : sgn (v2 a b c) ≠ 0) : rsS a b c ≠ 0 := by
  have hn := norm_ne h hv
  unfold rsS
  split
  · rename_i q
    intro ha
    have hb : b = 0 := by
      rcases q with q | q
      · rw [sgnQ_eqz] at q; exact q
      · rw [ha] at q; rw [← sgnQ_eqz]; exact q.symm
    rw [sgnQ_eqz] at ha
    rw [ha, hb, v2_b0, sgn_of] at hv
    exact hv (sgnQ_zero rfl)
  · rename_i q
    split
    · intro k; exact q (.inl k)
    · rename_i k
      intro m
      rcases Int.mul_eq_zero.1 m with m | m
      · exact k m
      · rw [sgnQ_eqz] at m; exact hn m
end Go.PL

set_option linter.unusedSimpArgs false
set_option linter.unusedVariables false
set_option maxRecDepth 20000
namespace Go.Proofs.YtdojhoegildiaaaGreat
open Go Go.PL Go.RL
set_option maxHeartbeats 4000000 in
theorem c_root_FromRat (a : Rat) :
    Ret Tryz.prog 101 [.a (ratC a)] (.e (.a (ratC (a) ++ (ratC (0) ++ ratC (0))))) := by
  refine ret_of_body (md := {}) Tryz.func101 (by kernel_rfl) rfl ?_; simp only [Tryz.f101, go_sem, Nat.reduceAdd, Nat.reduceSub, List.reduceReplicate]; refine pwx_sr 2 [] (by rfl) fun _ K1 => ?_; simp (disch := omega) only [go_sem]; refine K1 _ ?_; clear K1; refine pwx_sd Tryz.mixed 0 [] (by rfl) [] (by kernel_rfl) (by simp) fun _ K2 => ?_; refine rgnX_take 2 fun _ K3 => ?_; simp (disch := omega) only [go_sem]; refine ⟨_, c_root_zero, ?_⟩; refine K3 _ ?_; refine rgnX_take 1 fun _ K4 => ?_; simp (disch := omega) only [go_sem]; refine ⟨_, c_root_zero, ?_⟩; refine K4 _ ?_; simp (disch := omega) only [go_sem]; refine K2 _ ?_; clear K4 K3 K2; refine pwp_ret ?_; refine ⟨Or.inr rfl, ?_⟩; simp (disch := omega) only [go_sem]
  all_goals rfl
set_option maxHeartbeats 4000000 in
theorem c_root_Neg (a b c : Rat) {k l m : Nat} [SzR a k] [SzR b l] [SzR c m] (hk : k + l + m ≤ 30000) :
    Ret Tryz.prog 60 [.a (ratC (a) ++ (ratC (b) ++ ratC (c)))] (.e (.a (ratC (-a) ++ (ratC (-b) ++ ratC (c))))) := by
  refine ret_of_body (md := {}) Tryz.func60 (by kernel_rfl) rfl ?_; simp only [Tryz.f60, go_sem, Nat.reduceAdd, Nat.reduceSub, List.reduceReplicate]; refine pwx_sr 2 [] (by rfl) fun _ K1 => ?_; simp (disch := omega) only [go_sem]; refine K1 _ ?_; clear K1; refine pwx_sd Tryz.mixed 0 [] (by rfl) [] (by kernel_rfl) (by simp) fun _ K2 => ?_; refine rgnX_take 3 fun _ K3 => ?_; simp (disch := omega) only [go_sem]; refine ⟨_, c_rational_Neg _ (by omega), ?_⟩; refine K3 _ ?_; refine rgnX_take 3 fun _ K4 => ?_; simp (disch := omega) only [go_sem]; refine ⟨_, c_rational_Neg _ (by omega), ?_⟩; refine K4 _ ?_; simp (disch := omega) only [go_sem]; refine K2 _ ?_; clear K4 K3 K2; refine pwp_ret ?_; refine ⟨Or.inr rfl, ?_⟩; simp (disch := omega) only [go_sem]
  all_goals rfl
set_option maxHeartbeats 4000000 in
theorem c_root_norm (a b c : Rat) {k l m : Nat} [SzR a k] [SzR b l] [SzR c m] (hk : k + l + m ≤ 30000) :
    Ret Tryz.prog 132 [.a (ratC (a) ++ (ratC (b) ++ ratC (c)))] (.e (.a (ratC (a * a - b * b * c)))) := by
  refine ret_of_body (md := {}) Tryz.func132 (by kernel_rfl) rfl ?_; simp only [Tryz.f132, go_sem, Nat.reduceAdd, Nat.reduceSub, List.reduceReplicate]; refine pwx_sr 2 [] (by rfl) fun _ K1 => ?_; simp (disch := omega) only [go_sem]; refine K1 _ ?_; clear K1; refine pwx_sd Tryz.mixed 0 [] (by rfl) [] (by kernel_rfl) (by simp) fun _ K2 => ?_; refine rgnX_take 5 fun _ K3 => ?_; simp (disch := omega) only [go_sem]; refine ⟨_, c_rational_Mul _ _ (by omega), ?_⟩; refine K3 _ ?_; refine rgnX_take 5 fun _ K4 => ?_; simp (disch := omega) only [go_sem]; refine ⟨_, c_rational_Mul _ _ (by omega), ?_⟩; refine K4 _ ?_; refine rgnX_take 3 fun _ K5 => ?_; simp (disch := omega) only [go_sem]; refine ⟨_, c_rational_Mul _ _ (by omega), ?_⟩; refine K5 _ ?_; refine rgnX_take 1 fun _ K6 => ?_; simp (disch := omega) only [go_sem]; refine ⟨_, c_rational_Sub _ _ (by omega), ?_⟩; refine K6 _ ?_; simp (disch := omega) only [go_sem]; refine K2 _ ?_; clear K6 K5 K4 K3 K2; refine pwp_ret ?_; refine ⟨Or.inr rfl, ?_⟩; simp (disch := omega) only [go_sem]
  all_goals rfl
set_option maxHeartbeats 4000000 in
theorem c_root_Sign (a b c : Rat) {k l m : Nat} [SzR a k] [SzR b l] [SzR c m] (hk : k + l + m ≤ 30000) :
    Ret Tryz.prog 131 [.a (ratC (a) ++ (ratC (b) ++ ratC (c)))] (.e (.c (.int .i64 (rsS a b c)))) := by
  refine ret_of_body (md := {}) Tryz.func131 (by kernel_rfl) rfl ?_; simp only [Tryz.f131, go_sem, Nat.reduceAdd, Nat.reduceSub, List.reduceReplicate]; have b1 := sgnQ_bd a; have b2 := mul_bd (sgnQ_bd a) (sgnQ_bd (a * a - b * b * c)); refine pwx_sr 1 [] (by rfl) fun _ K1 => ?_; simp (disch := omega) only [go_sem]; refine K1 _ ?_; clear K1; refine pwx_sd Tryz.mixed 0 [] (by rfl) [] (by kernel_rfl) (by simp) fun _ K2 => ?_; refine rgnX_take 3 fun _ K3 => ?_; simp (disch := omega) only [go_sem]; refine ⟨_, c_rational_Sign _, ?_⟩; refine K3 _ ?_; refine rgnX_take 3 fun _ K4 => ?_; simp (disch := omega) only [go_sem]; refine ⟨_, c_rational_Sign _, ?_⟩; refine K4 _ ?_; simp (disch := omega) only [go_sem]; refine K2 _ ?_; clear K4 K3 K2; refine pwp_seq ?_; refine pwp_block ?_; by_cases h0 : b = 0
  · refine pwx_sr 0 [some 12, some 13, some 14, some 15, some 16, some 17, some 18, some 11] (by rfl) fun _ K5 => ?_; simp (disch := omega) only [go_sem]; refine K5 _ ?_; clear K5; refine pwp_cond (b := true) (by rfl) (fun _ => ?_) (fun h => nomatch h); refine pwx_sr 0 [] (by rfl) fun _ K6 => ?_; simp (disch := omega) only [go_sem]; refine K6 _ ?_; clear K6; refine pwp_ret ?_; refine r_block ?_; refine r_then ?_; refine ⟨Or.inr rfl, ?_⟩; simp (disch := omega) only [go_sem]
    all_goals first | exact rsS_1 h0 | exact rsS_2 (by assumption) | exact rsS_3 h0 (by assumption) (by assumption) | exact rsS_4 h0 (by assumption) (by assumption)
  · refine pwx_sr 0 [some 12, some 13, some 14, some 15, some 16, some 17, some 18, some 11] (by rfl) fun _ K7 => ?_; simp (disch := omega) only [go_sem]; refine K7 _ ?_; clear K7; refine pwp_cond (b := _) (by rfl) (fun hb1 => ?_) (fun hb1 => ?_)
    · first | replace hb1 := of_decide_eq_true hb1 | skip
      refine pwx_sr 0 [] (by rfl) fun _ K8 => ?_; simp (disch := omega) only [go_sem]; refine K8 _ ?_; clear K8; refine pwp_ret ?_; refine r_block ?_; refine r_then ?_; refine ⟨Or.inr rfl, ?_⟩; simp (disch := omega) only [go_sem]
      all_goals first | exact rsS_1 h0 | exact rsS_2 (by assumption) | exact rsS_3 h0 (by assumption) (by assumption) | exact rsS_4 h0 (by assumption) (by assumption)
    · first | replace hb1 := of_decide_eq_false hb1 | skip
      refine pwx_sr 0 [] (by rfl) fun _ K9 => ?_; simp (disch := omega) only [go_sem]; refine K9 _ ?_; clear K9; refine pwp_cond (b := _) (by rfl) (fun hb2 => ?_) (fun hb2 => ?_)
      · first | replace hb2 := of_decide_eq_true hb2 | skip
        refine pwx_sr 0 [] (by rfl) fun _ K10 => ?_; simp (disch := omega) only [go_sem]; refine K10 _ ?_; clear K10; refine pwp_ret ?_; refine r_block ?_; refine r_then ?_; refine ⟨Or.inr rfl, ?_⟩; simp (disch := omega) only [go_sem]
        all_goals first | exact rsS_1 h0 | exact rsS_2 (by assumption) | exact rsS_3 h0 (by assumption) (by assumption) | exact rsS_4 h0 (by assumption) (by assumption)
      · first | replace hb2 := of_decide_eq_false hb2 | skip
        refine pwp_skip ?_; refine n_block ?_; refine n_then ?_; refine pwx_sr 0 [] (by rfl) fun _ K11 => ?_; refine rgnX_take 3 fun _ K12 => ?_; simp (disch := omega) only [go_sem]; refine ⟨_, c_root_norm _ _ _ (by omega), ?_⟩; refine K12 _ ?_; refine rgnX_take 1 fun _ K13 => ?_; simp (disch := omega) only [go_sem]; refine ⟨_, c_rational_Sign _, ?_⟩; refine K13 _ ?_; simp (disch := omega) only [go_sem]; refine K11 _ ?_; clear K13 K12 K11; refine pwp_ret ?_; refine ⟨Or.inr rfl, ?_⟩; simp (disch := omega) only [go_sem]
        all_goals first | exact rsS_1 h0 | exact rsS_2 (by assumption) | exact rsS_3 h0 (by assumption) (by assumption) | exact rsS_4 h0 (by assumption) (by assumption)
set_option maxHeartbeats 4000000 in
theorem c_radical_less (a b c n : Rat) {k l : Nat} [SzR a k] [SzR n l] (hk : k + l ≤ 150000) :
    Ret Tryz.prog 106 [.a (ratC (a) ++ (ratC (b) ++ ratC (c))), .a (ratC n)] (.e (.a (ratC (a - n) ++ (ratC (b) ++ ratC (c))))) := by
  refine ret_of_body (md := {}) Tryz.func106 (by kernel_rfl) rfl ?_; simp only [Tryz.f106, go_sem, Nat.reduceAdd, Nat.reduceSub, List.reduceReplicate]; refine pwx_sr 3 [] (by rfl) fun _ K1 => ?_; simp (disch := omega) only [go_sem]; refine K1 _ ?_; clear K1; refine pwx_sr 0 [] (by rfl) fun _ K2 => ?_; refine rgnX_take 4 fun _ K3 => ?_; simp (disch := omega) only [go_sem]; refine ⟨_, c_rational_Sub _ _ (by omega), ?_⟩; refine K3 _ ?_; simp (disch := omega) only [go_sem]; refine K2 _ ?_; clear K3 K2; refine pwx_sr 0 [] (by rfl) fun _ K4 => ?_; simp (disch := omega) only [go_sem]; refine K4 _ ?_; clear K4; refine pwp_ret ?_; refine ⟨Or.inr rfl, ?_⟩; simp (disch := omega) only [go_sem]
  all_goals rfl
set_option maxHeartbeats 4000000 in
theorem c_radical_CmpRat (a b c n : Rat) {k l m o : Nat} [SzR a k] [SzR b l] [SzR c m] [SzR n o] (hk : k + l + m + o ≤ 1900) (hc : 0 ≤ c) :
    Ret Tryz.prog 57 [.a (ratC (a) ++ (ratC (b) ++ ratC (c))), .a (ratC n)] (.e (.c (.int .i64 (two (a - n) b c)))) := by
  refine ret_of_body (md := {}) Tryz.func57 (by kernel_rfl) rfl ?_; simp only [Tryz.f57, go_sem, Nat.reduceAdd, Nat.reduceSub, List.reduceReplicate]; have h0 : (0 : Rat) ≤ 0 := Rat.le_refl; refine pwx_sr 2 [] (by rfl) fun _ K1 => ?_; simp (disch := omega) only [go_sem]; refine K1 _ ?_; clear K1; refine pwx_sd Tryz.mixed 0 [] (by rfl) [] (by kernel_rfl) (by simp) fun _ K2 => ?_; refine rgnX_take 3 fun _ K3 => ?_; simp (disch := omega) only [go_sem]; refine ⟨_, c_root_FromRat _, ?_⟩; refine K3 _ ?_; refine rgnX_take 1 fun _ K4 => ?_; simp (disch := omega) only [go_sem]; refine ⟨_, c_radical_Cmp _ _ _ _ _ _ (by omega) (by assumption) (by assumption), ?_⟩; refine K4 _ ?_; simp (disch := omega) only [go_sem]; refine K2 _ ?_; clear K4 K3 K2; refine pwp_ret ?_; refine ⟨Or.inr rfl, ?_⟩; simp (disch := omega) only [go_sem]
  all_goals rw [cmpR_rat hc]
set_option maxHeartbeats 4000000 in
theorem c_radical_Equal (a b c a' b' c' : Rat) {k l m k' l' m' : Nat} [SzR a k] [SzR b l] [SzR c m] [SzR a' k'] [SzR b' l'] [SzR c' m'] (hk : k + l + m + k' + l' + m' ≤ 1900) (hc : 0 ≤ c) (hc' : 0 ≤ c') :
    Ret Tryz.prog 37 [.a (ratC (a) ++ (ratC (b) ++ ratC (c))), .a (ratC (a') ++ (ratC (b') ++ ratC (c')))] (.e (.c (.bool (decide (cmpR a b c a' b' c' = 0))))) := by
  refine ret_of_body (md := {}) Tryz.func37 (by kernel_rfl) rfl ?_; simp only [Tryz.f37, go_sem, Nat.reduceAdd, Nat.reduceSub, List.reduceReplicate]; refine pwx_sr 2 [] (by rfl) fun _ K1 => ?_; simp (disch := omega) only [go_sem]; refine K1 _ ?_; clear K1; refine pwx_sr 0 [] (by rfl) fun _ K2 => ?_; refine rgnX_take 3 fun _ K3 => ?_; simp (disch := omega) only [go_sem]; refine ⟨_, c_radical_Cmp _ _ _ _ _ _ (by omega) (by assumption) (by assumption), ?_⟩; refine K3 _ ?_; simp (disch := omega) only [go_sem]; refine K2 _ ?_; clear K3 K2; refine pwp_ret ?_; refine ⟨Or.inr rfl, ?_⟩; simp (disch := omega) only [go_sem]
  all_goals rfl
set_option maxHeartbeats 4000000 in
theorem c_root_Inv (a b c : Rat) {k l m : Nat} [SzR a k] [SzR b l] [SzR c m] (hk : k + l + m ≤ 5000) (hs : rsS a b c ≠ 0) (hn : a * a - b * b * c ≠ 0) :
    Ret Tryz.prog 105 [.a (ratC (a) ++ (ratC (b) ++ ratC (c)))] (.t [.a (ratC (a * (1 / ((a) * (a) - (b) * (b) * c))) ++ (ratC (-b * (1 / ((a) * (a) - (b) * (b) * c))) ++ ratC (rC (-b * (1 / ((a) * (a) - (b) * (b) * c))) c))), .c (.int .i64 0)]) := by
  refine ret_of_body (md := {}) Tryz.func105 (by kernel_rfl) rfl ?_; simp only [Tryz.f105, go_sem, Nat.reduceAdd, Nat.reduceSub, List.reduceReplicate]; refine pwx_sr 2 [] (by rfl) fun _ K1 => ?_; simp (disch := omega) only [go_sem, nr_1]; refine K1 _ ?_; clear K1; refine pwp_seq ?_; refine pwx_sr 0 [] (by rfl) fun _ K2 => ?_; refine rgnX_take 2 fun _ K3 => ?_; simp (disch := omega) only [go_sem, nr_1]; refine ⟨_, c_root_Sign _ _ _ (by omega), ?_⟩; refine K3 _ ?_; simp (disch := omega) only [go_sem, nr_1]; refine K2 _ ?_; clear K3 K2; refine pwp_cond (b := false) (by rfl) (fun h => nomatch h) (fun _ => ?_); refine pwp_skip ?_; refine n_then ?_; refine pwx_sd Tryz.mixed 1 [] (by rfl) [] (by kernel_rfl) (by simp) fun _ K4 => ?_; refine rgnX_take 1 fun _ K5 => ?_; simp (disch := omega) only [go_sem, nr_1]; refine ⟨_, c_rational_FromInt64 _ (by omega) (by omega), ?_⟩; refine K5 _ ?_; refine rgnX_take 2 fun _ K6 => ?_; simp (disch := omega) only [go_sem, nr_1]; refine ⟨_, c_root_norm _ _ _ (by omega), ?_⟩; refine K6 _ ?_; refine rgnX_take 1 fun _ K7 => ?_; simp (disch := omega) only [go_sem, nr_1]; refine ⟨_, c_rational_Div _ _ (by omega) hn, ?_⟩; refine K7 _ ?_; simp (disch := omega) only [go_sem, nr_1]; refine K4 _ ?_; clear K7 K6 K5 K4; refine pwp_seq ?_; refine pwx_sr 0 [] (by rfl) fun _ K8 => ?_; simp (disch := omega) only [go_sem, nr_1]; refine K8 _ ?_; clear K8; refine pwp_cond (b := false) (by rfl) (fun h => nomatch h) (fun _ => ?_); refine pwp_skip ?_; refine n_then ?_; refine pwx_sd Tryz.mixed 0 [] (by rfl) [] (by kernel_rfl) (by simp) fun _ K9 => ?_; refine rgnX_take 5 fun _ K10 => ?_; simp (disch := omega) only [go_sem, nr_1]; refine ⟨_, c_rational_Neg _ (by omega), ?_⟩; refine K10 _ ?_; refine rgnX_take 5 fun _ K11 => ?_; simp (disch := omega) only [go_sem, nr_1]; refine ⟨_, c_root_Scale _ _ _ _ (by omega), ?_⟩; refine K11 _ ?_; simp (disch := omega) only [go_sem, nr_1]; refine K9 _ ?_; clear K11 K10 K9; refine pwp_ret ?_; refine ⟨Or.inr rfl, ?_⟩; simp (disch := omega) only [go_sem, nr_1]
  all_goals rfl
set_option maxHeartbeats 4000000 in
theorem c_swarfref05_CmpRat (a b c n : Rat) {k l m o : Nat} [SzR a k] [SzR b l] [SzR c m] [SzR n o] (hk : k + l + m + o ≤ 10000) :
    Ret Tryz.prog 26 [.a (ratC (a) ++ (ratC (b) ++ ratC (c))), .a (ratC n)] (.e (.c (.int .i64 (two (a - n) b c)))) := by
  refine ret_of_body (md := {}) Tryz.func26 (by kernel_rfl) rfl ?_; simp only [Tryz.f26, go_sem, Nat.reduceAdd, Nat.reduceSub, List.reduceReplicate]; refine pwx_sr 2 [] (by rfl) fun _ K1 => ?_; simp (disch := omega) only [go_sem]; refine K1 _ ?_; clear K1; refine pwx_sd Tryz.mixed 0 [] (by rfl) [] (by kernel_rfl) (by simp) fun _ K2 => ?_; refine rgnX_take 4 fun _ K3 => ?_; simp (disch := omega) only [go_sem]; refine ⟨_, c_swarfref02_Sub _ _ (by omega), ?_⟩; refine K3 _ ?_; refine rgnX_take 5 fun _ K4 => ?_; simp (disch := omega) only [go_sem]; refine ⟨_, c_swarfref05_two _ _ _ (by omega), ?_⟩; refine K4 _ ?_; simp (disch := omega) only [go_sem]; refine K2 _ ?_; clear K4 K3 K2; refine pwp_ret ?_; refine ⟨Or.inr rfl, ?_⟩; simp (disch := omega) only [go_sem]
  all_goals rfl
set_option maxHeartbeats 4000000 in
theorem c_swarfref05_move (a b c n : Rat) {k l : Nat} [SzR a k] [SzR n l] (hk : k + l ≤ 150000) :
    Ret Tryz.prog 66 [.a (ratC (a) ++ (ratC (b) ++ ratC (c))), .a (ratC n)] (.e (.a (ratC (a - n) ++ (ratC (b) ++ ratC (c))))) := by
  refine ret_of_body (md := {}) Tryz.func66 (by kernel_rfl) rfl ?_; simp only [Tryz.f66, go_sem, Nat.reduceAdd, Nat.reduceSub, List.reduceReplicate]; refine pwx_sr 3 [] (by rfl) fun _ K1 => ?_; simp (disch := omega) only [go_sem]; refine K1 _ ?_; clear K1; refine pwx_sr 0 [] (by rfl) fun _ K2 => ?_; refine rgnX_take 4 fun _ K3 => ?_; simp (disch := omega) only [go_sem]; refine ⟨_, c_swarfref02_Sub _ _ (by omega), ?_⟩; refine K3 _ ?_; simp (disch := omega) only [go_sem]; refine K2 _ ?_; clear K3 K2; refine pwx_sr 0 [] (by rfl) fun _ K4 => ?_; simp (disch := omega) only [go_sem]; refine K4 _ ?_; clear K4; refine pwp_ret ?_; refine ⟨Or.inr rfl, ?_⟩; simp (disch := omega) only [go_sem]
  all_goals rfl
set_option maxHeartbeats 4000000 in
theorem c_swarfref05_whole (n : Int) :
    Ret Tryz.prog 73 [.a (intC n)] (.e (.a (ratC (n : Rat)))) := by
  refine ret_of_body (md := {}) Tryz.func73 (by kernel_rfl) rfl ?_; simp only [Tryz.f73, go_sem, Nat.reduceAdd, Nat.reduceSub, List.reduceReplicate]; refine pwx_sr 2 [] (by rfl) fun _ K1 => ?_; simp (disch := omega) only [go_sem]; refine K1 _ ?_; clear K1; refine pwx_sd Tryz.mixed 0 [] (by rfl) [] (by kernel_rfl) (by simp) fun _ K2 => ?_; refine rgnX_take 2 fun _ K3 => ?_; simp (disch := omega) only [go_sem]; refine ⟨_, c_swarfref01_FromInt64 _ (by omega) (by omega), ?_⟩; refine K3 _ ?_; simp (disch := omega) only [go_sem]; refine K2 _ ?_; clear K3 K2; refine pwp_ret ?_; refine ⟨Or.inr rfl, ?_⟩; simp (disch := omega) only [go_sem]
  all_goals rw [ratC_int]
set_option maxHeartbeats 4000000 in
theorem c_swarfref02_Floor (q : Rat) {k : Nat} [hsq : SzR q k] (hk : k ≤ 300000) :
    Ret Tryz.prog 72 [.a (ratC q)] (.e (.a (intC q.floor))) := by
  refine ret_of_body (md := {}) Tryz.func72 (by kernel_rfl) rfl ?_; simp only [Tryz.f72, go_sem, Nat.reduceAdd, Nat.reduceSub, List.reduceReplicate]; have hdq := q.den_pos; refine pwx_sr 2 [] (by rfl) fun _ K1 => ?_; simp (disch := omega) only [go_sem]; refine K1 _ ?_; clear K1; refine pwx_sr 2 [] (by rfl) fun _ K2 => ?_; refine rgnX_take 5 fun _ K3 => ?_; simp (disch := omega) only [go_sem]; refine ⟨_, c_swarfref01_DivMod _ _ szi szi (by first | assumption | omega), ?_⟩; refine K3 _ ?_; simp (disch := omega) only [go_sem]; refine K2 _ ?_; clear K3 K2; refine pwx_sr 0 [] (by rfl) fun _ K4 => ?_; simp (disch := omega) only [go_sem]; refine K4 _ ?_; clear K4; refine pwp_ret ?_; refine ⟨Or.inr rfl, ?_⟩; simp (disch := omega) only [go_sem]
  all_goals rw [Rat.floor_def]
set_option maxHeartbeats 4000000 in
theorem c_swarfref02_Make (n d : Int) {k l : Nat} [hsn : SzI n k] [hsd : SzI d l] (hkl : k + l ≤ 400000) (hd : d ≠ 0) :
    Ret Tryz.prog 74 [.a (intC n), .a (intC d)] (.t [.a (ratC (Rat.divInt n d)), .c (.int .i64 0)]) := by
  refine ret_of_body (md := {}) Tryz.func74 (by kernel_rfl) rfl ?_; simp only [Tryz.f74, go_sem, Nat.reduceAdd, Nat.reduceSub, List.reduceReplicate]; refine pwx_sr 3 [] (by rfl) fun _ K1 => ?_; simp (disch := omega) only [go_sem]; refine K1 _ ?_; clear K1; refine pwp_seq ?_; refine pwx_sr 0 [] (by rfl) fun _ K2 => ?_; refine rgnX_take 2 fun _ K3 => ?_; simp (disch := omega) only [go_sem]; refine ⟨_, c_swarfref01_Sign _, ?_⟩; refine K3 _ ?_; simp (disch := omega) only [go_sem]; refine K2 _ ?_; clear K3 K2; refine pwp_cond (b := false) (by rfl) (fun h => nomatch h) (fun _ => ?_); refine pwp_skip ?_; refine n_then ?_; refine pwx_sr 0 [] (by rfl) fun _ K4 => ?_; refine rgnX_take 3 fun _ K5 => ?_; simp (disch := omega) only [go_sem]; refine ⟨_, c_swarfref02_Of _ _ (by omega) hd, ?_⟩; refine K5 _ ?_; simp (disch := omega) only [go_sem]; refine K4 _ ?_; clear K5 K4; refine pwp_ret ?_; refine ⟨Or.inr rfl, ?_⟩; simp (disch := omega) only [go_sem]
set_option maxHeartbeats 4000000 in
theorem c_swarfref02_Div (a b : Rat) {k l : Nat} [SzR a k] [SzR b l] (hkl : k + l ≤ 100000) (hb0 : b ≠ 0) :
    Ret Tryz.prog 32 [.a (ratC a), .a (ratC b)] (.t [.a (ratC (a / b)), .c (.int .i64 0)]) := by
  refine ret_of_body (md := {}) Tryz.func32 (by kernel_rfl) rfl ?_; simp only [Tryz.f32, go_sem, Nat.reduceAdd, Nat.reduceSub, List.reduceReplicate]; have hda := a.den_pos; have hdb := b.den_pos; have hdab := Nat.mul_pos hda hdb; have hne := Int.mul_ne_zero (den_ne a) (num_ne hb0); refine pwx_sr 3 [] (by rfl) fun _ K1 => ?_; simp (disch := omega) only [go_sem]; refine K1 _ ?_; clear K1; refine pwx_sd Tryz.mixed 0 [] (by rfl) [] (by kernel_rfl) (by simp) fun _ K2 => ?_; refine rgnX_take 5 fun _ K3 => ?_; simp (disch := omega) only [go_sem]; refine ⟨_, c_swarfref01_Mul _ _ szi szi, ?_⟩; refine K3 _ ?_; refine rgnX_take 5 fun _ K4 => ?_; simp (disch := omega) only [go_sem]; refine ⟨_, c_swarfref01_Mul _ _ szi szi, ?_⟩; refine K4 _ ?_; refine rgnX_take 1 fun _ K5 => ?_; simp (disch := omega) only [go_sem]; refine ⟨_, c_swarfref02_Make _ _ (by omega) hne, ?_⟩; refine K5 _ ?_; simp (disch := omega) only [go_sem]; refine K2 _ ?_; clear K5 K4 K3 K2; refine pwp_ret ?_; refine ⟨Or.inr rfl, ?_⟩; simp (disch := omega) only [go_sem]
  all_goals rw [div_divInt a hb0]
set_option maxHeartbeats 4000000 in
theorem c_swarflaw05_num (n : Int) (h0 : -9223372036854775808 ≤ n) (h1 : n < 9223372036854775808) :
    Ret Tryz.prog 14 [.c (.int .i64 n)] (.e (.a (ratC (n : Rat)))) := by
  refine ret_of_body (md := {}) Tryz.func14 (by kernel_rfl) rfl ?_; simp only [Tryz.f14, go_sem, Nat.reduceAdd, Nat.reduceSub, List.reduceReplicate]; refine pwx_sr 1 [] (by rfl) fun _ K1 => ?_; simp (disch := omega) only [go_sem]; refine K1 _ ?_; clear K1; refine pwx_sr 0 [] (by rfl) fun _ K2 => ?_; refine rgnX_take 2 fun _ K3 => ?_; simp (disch := omega) only [go_sem]; refine ⟨_, c_swarfref02_FromInt64 _ (by omega) (by omega), ?_⟩; refine K3 _ ?_; simp (disch := omega) only [go_sem]; refine K2 _ ?_; clear K3 K2; refine pwp_ret ?_; refine ⟨Or.inr rfl, ?_⟩; simp (disch := omega) only [go_sem]
  all_goals rfl

end Go.Proofs.YtdojhoegildiaaaGreat

namespace Go.PL
open Go.RL
def nrR (a b c t : Rat) : Rat := Rat.divInt (flR (a * (1 / t)) (b * (1 / t)) (rC (b * (1 / t)) c)) 1 * t
theorem divInt_1 (n : Int) : Rat.divInt n 1 = (n : Rat) := by
  rw [Rat.divInt_eq_div]
  have e1 : ((1 : Int) : Rat) = 1 := rfl
  rw [e1]; grind
instance SzR.nrR {a b c t : Rat} {k l m o : Nat} [SzR a k] [SzR b l] [SzR c m] [SzR t o] : SzR (nrR a b c t) (3 * (k + (1 + o)) + 6 * (l + (1 + o)) + 3 * (1 + m) + 10 + o) := by
  unfold PL.nrR
  exact (inferInstance : SzR _ _).mono (by omega)
end Go.PL

set_option linter.unusedSimpArgs false
set_option linter.unusedVariables false
set_option maxRecDepth 20000
namespace Go.Proofs.YtdojhoegildiaaaGreat
open Go Go.PL Go.RL
set_option maxHeartbeats 4000000 in
theorem c_between_1 (a b c a' b' c' : Rat) [SzR a 330] [SzR b 330] [SzR c 330] [SzR a' 330] [SzR b' 330] [SzR c' 330] (hc : 0 ≤ c) (hc' : 0 ≤ c') (n : Int) (hn : flR a b c = n) [SzI n 700] (h1 : 0 < two (a' - ((n : Rat) + 1)) b' c') :
    Ret Tryz.prog 59 [.a (ratC (a) ++ (ratC (b) ++ ratC (c))), .a (ratC (a') ++ (ratC (b') ++ ratC (c')))] (.e (.a (ratC ((n : Rat) + 1)))) := by
  refine ret_of_body (md := {}) Tryz.func59 (by kernel_rfl) rfl ?_; simp only [Tryz.f59, go_sem, Nat.reduceAdd, Nat.reduceSub, List.reduceReplicate]; refine pwx_sr 3 [] (by rfl) fun _ K1 => ?_; simp (disch := omega) only [go_sem, nr_1, hn, divInt_1]; refine K1 _ ?_; clear K1; refine pwx_sr 1 [] (by rfl) fun _ K2 => ?_; refine rgnX_take 1 fun _ K3 => ?_; simp (disch := omega) only [go_sem, nr_1, hn, divInt_1]; refine ⟨_, c_rational_FromInt64 _ (by omega) (by omega), ?_⟩; refine K3 _ ?_; simp (disch := omega) only [go_sem, nr_1, hn, divInt_1]; refine K2 _ ?_; clear K3 K2; refine pwx_sr 1 [] (by rfl) fun _ K4 => ?_; refine rgnX_take 2 fun _ K5 => ?_; simp (disch := omega) only [go_sem, nr_1, hn, divInt_1]; refine ⟨_, c_root_Floor _ _ _ (by omega), ?_⟩; refine K5 _ ?_; refine rgnX_take 1 fun _ K6 => ?_; simp (disch := omega) only [go_sem, nr_1, hn, divInt_1]; refine ⟨_, c_integer_FromInt64 _ (by omega) (by omega), ?_⟩; refine K6 _ ?_; refine rgnX_take 1 fun _ K7 => ?_; simp (disch := omega) only [go_sem, nr_1, hn, divInt_1]; refine ⟨_, c_rational_Make _ _ (by omega) (by omega), ?_⟩; refine K7 _ ?_; simp (disch := omega) only [go_sem, nr_1, hn, divInt_1]; refine K4 _ ?_; clear K7 K6 K5 K4; refine pwx_sr 1 [] (by rfl) fun _ K8 => ?_; refine rgnX_take 3 fun _ K9 => ?_; simp (disch := omega) only [go_sem, nr_1, hn, divInt_1]; refine ⟨_, c_rational_Add _ _ (by omega), ?_⟩; refine K9 _ ?_; simp (disch := omega) only [go_sem, nr_1, hn, divInt_1]; refine K8 _ ?_; clear K9 K8; refine pwp_seq ?_; refine pwx_sr 0 [] (by rfl) fun _ K10 => ?_; refine rgnX_take 3 fun _ K11 => ?_; simp (disch := omega) only [go_sem, nr_1, hn, divInt_1, h1, decide_true]; refine ⟨_, c_radical_CmpRat _ _ _ _ (by omega) (by assumption), ?_⟩; refine K11 _ ?_; simp (disch := omega) only [go_sem, nr_1, hn, divInt_1, h1, decide_true]; refine K10 _ ?_; clear K11 K10; refine pwp_cond (b := true) (by rfl) (fun _ => ?_) (fun h => nomatch h); refine pwx_sr 0 [] (by rfl) fun _ K12 => ?_; simp (disch := omega) only [go_sem, nr_1, hn, divInt_1]; refine K12 _ ?_; clear K12; refine pwp_ret ?_; refine r_then ?_; refine ⟨Or.inr rfl, ?_⟩; simp (disch := omega) only [go_sem, nr_1, hn, divInt_1]
  all_goals rfl
set_option maxHeartbeats 4000000 in
theorem c_between_2 (a b c a' b' c' : Rat) [SzR a 330] [SzR b 330] [SzR c 330] [SzR a' 330] [SzR b' 330] [SzR c' 330] (hc : 0 ≤ c) (hc' : 0 ≤ c') (n : Int) (hn : flR a b c = n) [SzI n 700] (h1 : ¬ 0 < two (a' - ((n : Rat) + 1)) b' c') (h2 : two (a - (n : Rat)) b c = 0) (hs1 : rsS (a' - (n : Rat)) b' c' ≠ 0) (hN1 : ((a' - (n : Rat)) * (a' - (n : Rat)) - (b') * (b') * c') ≠ 0) (m : Int) (hm : flR ((a' - n) * (1 / ((a' - n) * (a' - n) - (b') * (b') * c'))) (-b' * (1 / ((a' - n) * (a' - n) - (b') * (b') * c'))) (rC (-b' * (1 / ((a' - n) * (a' - n) - (b') * (b') * c'))) c') = m) [SzI m 1000] (hy : (m : Rat) + 1 ≠ 0) :
    Ret Tryz.prog 59 [.a (ratC (a) ++ (ratC (b) ++ ratC (c))), .a (ratC (a') ++ (ratC (b') ++ ratC (c')))] (.e (.a (ratC ((n : Rat) + 1 / ((m : Rat) + 1))))) := by
  refine ret_of_body (md := {}) Tryz.func59 (by kernel_rfl) rfl ?_; simp only [Tryz.f59, go_sem, Nat.reduceAdd, Nat.reduceSub, List.reduceReplicate]; refine pwx_sr 3 [] (by rfl) fun _ K1 => ?_; simp (disch := omega) only [go_sem, nr_1, hn, divInt_1, hm]; refine K1 _ ?_; clear K1; refine pwx_sr 1 [] (by rfl) fun _ K2 => ?_; refine rgnX_take 1 fun _ K3 => ?_; simp (disch := omega) only [go_sem, nr_1, hn, divInt_1, hm]; refine ⟨_, c_rational_FromInt64 _ (by omega) (by omega), ?_⟩; refine K3 _ ?_; simp (disch := omega) only [go_sem, nr_1, hn, divInt_1, hm]; refine K2 _ ?_; clear K3 K2; refine pwx_sr 1 [] (by rfl) fun _ K4 => ?_; refine rgnX_take 2 fun _ K5 => ?_; simp (disch := omega) only [go_sem, nr_1, hn, divInt_1, hm]; refine ⟨_, c_root_Floor _ _ _ (by omega), ?_⟩; refine K5 _ ?_; refine rgnX_take 1 fun _ K6 => ?_; simp (disch := omega) only [go_sem, nr_1, hn, divInt_1, hm]; refine ⟨_, c_integer_FromInt64 _ (by omega) (by omega), ?_⟩; refine K6 _ ?_; refine rgnX_take 1 fun _ K7 => ?_; simp (disch := omega) only [go_sem, nr_1, hn, divInt_1, hm]; refine ⟨_, c_rational_Make _ _ (by omega) (by omega), ?_⟩; refine K7 _ ?_; simp (disch := omega) only [go_sem, nr_1, hn, divInt_1, hm]; refine K4 _ ?_; clear K7 K6 K5 K4; refine pwx_sr 1 [] (by rfl) fun _ K8 => ?_; refine rgnX_take 3 fun _ K9 => ?_; simp (disch := omega) only [go_sem, nr_1, hn, divInt_1, hm]; refine ⟨_, c_rational_Add _ _ (by omega), ?_⟩; refine K9 _ ?_; simp (disch := omega) only [go_sem, nr_1, hn, divInt_1, hm]; refine K8 _ ?_; clear K9 K8; refine pwp_seq ?_; refine pwx_sr 0 [] (by rfl) fun _ K10 => ?_; refine rgnX_take 3 fun _ K11 => ?_; simp (disch := omega) only [go_sem, nr_1, hn, divInt_1, hm, h1, decide_false]; refine ⟨_, c_radical_CmpRat _ _ _ _ (by omega) (by assumption), ?_⟩; refine K11 _ ?_; simp (disch := omega) only [go_sem, nr_1, hn, divInt_1, hm, h1, decide_false]; refine K10 _ ?_; clear K11 K10; refine pwp_cond (b := false) (by rfl) (fun h => nomatch h) (fun _ => ?_); refine pwp_skip ?_; refine n_then ?_; refine pwx_sr 1 [] (by rfl) fun _ K12 => ?_; refine rgnX_take 3 fun _ K13 => ?_; simp (disch := omega) only [go_sem, nr_1, hn, divInt_1, hm]; refine ⟨_, c_radical_less _ _ _ _ (by omega), ?_⟩; refine K13 _ ?_; refine rgnX_take 1 fun _ K14 => ?_; simp (disch := omega) only [go_sem, nr_1, hn, divInt_1, hm]
  first | refine ⟨_, c_root_Inv _ _ _ (by omega) hs1 hN1, ?_⟩ | refine ⟨_, c_root_Inv _ _ _ (by omega) hs2 hN2, ?_⟩
  refine K14 _ ?_; simp (disch := omega) only [go_sem, nr_1, hn, divInt_1, hm]; refine K12 _ ?_; clear K14 K13 K12; refine pwx_sr 1 [] (by rfl) fun _ K15 => ?_; simp (disch := omega) only [go_sem, nr_1, hn, divInt_1, hm]; refine K15 _ ?_; clear K15; refine pwp_seq ?_; refine pwx_sr 0 [] (by rfl) fun _ K16 => ?_; refine rgnX_take 3 fun _ K17 => ?_; simp (disch := omega) only [go_sem, nr_1, hn, divInt_1, hm, h2, decide_true]; refine ⟨_, c_radical_CmpRat _ _ _ _ (by omega) (by assumption), ?_⟩; refine K17 _ ?_; simp (disch := omega) only [go_sem, nr_1, hn, divInt_1, hm, h2, decide_true]; refine K16 _ ?_; clear K17 K16; refine pwp_cond (b := true) (by rfl) (fun _ => ?_) (fun h => nomatch h); refine pwx_sr 1 [] (by rfl) fun _ K18 => ?_; refine rgnX_take 2 fun _ K19 => ?_; simp (disch := omega) only [go_sem, nr_1, hn, divInt_1, hm]; refine ⟨_, c_root_Floor _ _ _ (by omega), ?_⟩; refine K19 _ ?_; refine rgnX_take 1 fun _ K20 => ?_; simp (disch := omega) only [go_sem, nr_1, hn, divInt_1, hm]; refine ⟨_, c_integer_FromInt64 _ (by omega) (by omega), ?_⟩; refine K20 _ ?_; refine rgnX_take 1 fun _ K21 => ?_; simp (disch := omega) only [go_sem, nr_1, hn, divInt_1, hm]; refine ⟨_, c_rational_Make _ _ (by omega) (by omega), ?_⟩; refine K21 _ ?_; simp (disch := omega) only [go_sem, nr_1, hn, divInt_1, hm]; refine K18 _ ?_; clear K21 K20 K19 K18; refine pwx_region 0 [] (by rfl) fun _ K22 => ?_; refine rgnX_take 3 fun _ K23 => ?_; simp (disch := omega) only [go_sem, nr_1, hn, divInt_1, hm]; refine ⟨_, c_rational_Add _ _ (by omega), ?_⟩; refine K23 _ ?_; simp (disch := omega) only [go_sem, nr_1, hn, divInt_1, hm]; refine K22 _ ?_; clear K23 K22; refine n_then ?_; refine pwx_sr 1 [] (by rfl) fun _ K24 => ?_; refine rgnX_take 3 fun _ K25 => ?_; simp (disch := omega) only [go_sem, nr_1, hn, divInt_1, hm]; refine ⟨_, c_rational_Div _ _ (by omega) hy, ?_⟩; refine K25 _ ?_; simp (disch := omega) only [go_sem, nr_1, hn, divInt_1, hm]; refine K24 _ ?_; clear K25 K24; refine pwx_sr 0 [] (by rfl) fun _ K26 => ?_; refine rgnX_take 3 fun _ K27 => ?_; simp (disch := omega) only [go_sem, nr_1, hn, divInt_1, hm]; refine ⟨_, c_rational_Add _ _ (by omega), ?_⟩; refine K27 _ ?_; simp (disch := omega) only [go_sem, nr_1, hn, divInt_1, hm]; refine K26 _ ?_; clear K27 K26; refine pwp_ret ?_; refine ⟨Or.inr rfl, ?_⟩; simp (disch := omega) only [go_sem, nr_1, hn, divInt_1, hm]
  all_goals rfl
set_option maxHeartbeats 4000000 in
theorem c_between_3 (a b c a' b' c' : Rat) [SzR a 330] [SzR b 330] [SzR c 330] [SzR a' 330] [SzR b' 330] [SzR c' 330] (hc : 0 ≤ c) (hc' : 0 ≤ c') (n : Int) (hn : flR a b c = n) [SzI n 700] (h1 : ¬ 0 < two (a' - ((n : Rat) + 1)) b' c') (h2 : ¬ two (a - (n : Rat)) b c = 0) (hs1 : rsS (a' - (n : Rat)) b' c' ≠ 0) (hN1 : ((a' - (n : Rat)) * (a' - (n : Rat)) - (b') * (b') * c') ≠ 0) (hs2 : rsS (a - (n : Rat)) b c ≠ 0) (hN2 : ((a - (n : Rat)) * (a - (n : Rat)) - (b) * (b) * c) ≠ 0) (y : Rat) [SzR y 1000] (hy : y ≠ 0) (hr : Ret Tryz.prog 59 [.a (ratC ((a' - n) * (1 / ((a' - n) * (a' - n) - (b') * (b') * c'))) ++ (ratC (-b' * (1 / ((a' - n) * (a' - n) - (b') * (b') * c'))) ++ ratC (rC (-b' * (1 / ((a' - n) * (a' - n) - (b') * (b') * c'))) c'))), .a (ratC ((a - n) * (1 / ((a - n) * (a - n) - (b) * (b) * c))) ++ (ratC (-b * (1 / ((a - n) * (a - n) - (b) * (b) * c))) ++ ratC (rC (-b * (1 / ((a - n) * (a - n) - (b) * (b) * c))) c)))] (.e (.a (ratC y)))) :
    Ret Tryz.prog 59 [.a (ratC (a) ++ (ratC (b) ++ ratC (c))), .a (ratC (a') ++ (ratC (b') ++ ratC (c')))] (.e (.a (ratC ((n : Rat) + 1 / y)))) := by
  refine ret_of_body (md := {}) Tryz.func59 (by kernel_rfl) rfl ?_; simp only [Tryz.f59, go_sem, Nat.reduceAdd, Nat.reduceSub, List.reduceReplicate]; refine pwx_sr 3 [] (by rfl) fun _ K1 => ?_; simp (disch := omega) only [go_sem, nr_1, hn, divInt_1]; refine K1 _ ?_; clear K1; refine pwx_sr 1 [] (by rfl) fun _ K2 => ?_; refine rgnX_take 1 fun _ K3 => ?_; simp (disch := omega) only [go_sem, nr_1, hn, divInt_1]; refine ⟨_, c_rational_FromInt64 _ (by omega) (by omega), ?_⟩; refine K3 _ ?_; simp (disch := omega) only [go_sem, nr_1, hn, divInt_1]; refine K2 _ ?_; clear K3 K2; refine pwx_sr 1 [] (by rfl) fun _ K4 => ?_; refine rgnX_take 2 fun _ K5 => ?_; simp (disch := omega) only [go_sem, nr_1, hn, divInt_1]; refine ⟨_, c_root_Floor _ _ _ (by omega), ?_⟩; refine K5 _ ?_; refine rgnX_take 1 fun _ K6 => ?_; simp (disch := omega) only [go_sem, nr_1, hn, divInt_1]; refine ⟨_, c_integer_FromInt64 _ (by omega) (by omega), ?_⟩; refine K6 _ ?_; refine rgnX_take 1 fun _ K7 => ?_; simp (disch := omega) only [go_sem, nr_1, hn, divInt_1]; refine ⟨_, c_rational_Make _ _ (by omega) (by omega), ?_⟩; refine K7 _ ?_; simp (disch := omega) only [go_sem, nr_1, hn, divInt_1]; refine K4 _ ?_; clear K7 K6 K5 K4; refine pwx_sr 1 [] (by rfl) fun _ K8 => ?_; refine rgnX_take 3 fun _ K9 => ?_; simp (disch := omega) only [go_sem, nr_1, hn, divInt_1]; refine ⟨_, c_rational_Add _ _ (by omega), ?_⟩; refine K9 _ ?_; simp (disch := omega) only [go_sem, nr_1, hn, divInt_1]; refine K8 _ ?_; clear K9 K8; refine pwp_seq ?_; refine pwx_sr 0 [] (by rfl) fun _ K10 => ?_; refine rgnX_take 3 fun _ K11 => ?_; simp (disch := omega) only [go_sem, nr_1, hn, divInt_1, h1, decide_false]; refine ⟨_, c_radical_CmpRat _ _ _ _ (by omega) (by assumption), ?_⟩; refine K11 _ ?_; simp (disch := omega) only [go_sem, nr_1, hn, divInt_1, h1, decide_false]; refine K10 _ ?_; clear K11 K10; refine pwp_cond (b := false) (by rfl) (fun h => nomatch h) (fun _ => ?_); refine pwp_skip ?_; refine n_then ?_; refine pwx_sr 1 [] (by rfl) fun _ K12 => ?_; refine rgnX_take 3 fun _ K13 => ?_; simp (disch := omega) only [go_sem, nr_1, hn, divInt_1]; refine ⟨_, c_radical_less _ _ _ _ (by omega), ?_⟩; refine K13 _ ?_; refine rgnX_take 1 fun _ K14 => ?_; simp (disch := omega) only [go_sem, nr_1, hn, divInt_1]
  first | refine ⟨_, c_root_Inv _ _ _ (by omega) hs1 hN1, ?_⟩ | refine ⟨_, c_root_Inv _ _ _ (by omega) hs2 hN2, ?_⟩
  refine K14 _ ?_; simp (disch := omega) only [go_sem, nr_1, hn, divInt_1]; refine K12 _ ?_; clear K14 K13 K12; refine pwx_sr 1 [] (by rfl) fun _ K15 => ?_; simp (disch := omega) only [go_sem, nr_1, hn, divInt_1]; refine K15 _ ?_; clear K15; refine pwp_seq ?_; refine pwx_sr 0 [] (by rfl) fun _ K16 => ?_; refine rgnX_take 3 fun _ K17 => ?_; simp (disch := omega) only [go_sem, nr_1, hn, divInt_1, h2, decide_false]; refine ⟨_, c_radical_CmpRat _ _ _ _ (by omega) (by assumption), ?_⟩; refine K17 _ ?_; simp (disch := omega) only [go_sem, nr_1, hn, divInt_1, h2, decide_false]; refine K16 _ ?_; clear K17 K16; refine pwp_cond (b := false) (by rfl) (fun h => nomatch h) (fun _ => ?_); refine pwx_sr 1 [] (by rfl) fun _ K18 => ?_; refine rgnX_take 3 fun _ K19 => ?_; simp (disch := omega) only [go_sem, nr_1, hn, divInt_1]; refine ⟨_, c_radical_less _ _ _ _ (by omega), ?_⟩; refine K19 _ ?_; refine rgnX_take 1 fun _ K20 => ?_; simp (disch := omega) only [go_sem, nr_1, hn, divInt_1]
  first | refine ⟨_, c_root_Inv _ _ _ (by omega) hs1 hN1, ?_⟩ | refine ⟨_, c_root_Inv _ _ _ (by omega) hs2 hN2, ?_⟩
  refine K20 _ ?_; simp (disch := omega) only [go_sem, nr_1, hn, divInt_1]; refine K18 _ ?_; clear K20 K19 K18; refine pwx_region 0 [] (by rfl) fun _ K21 => ?_; refine rgnX_take 3 fun _ K22 => ?_; simp (disch := omega) only [go_sem, nr_1, hn, divInt_1]; refine ⟨_, hr, ?_⟩; refine K22 _ ?_; simp (disch := omega) only [go_sem, nr_1, hn, divInt_1]; refine K21 _ ?_; clear K22 K21; refine n_then ?_; refine pwx_sr 1 [] (by rfl) fun _ K23 => ?_; refine rgnX_take 3 fun _ K24 => ?_; simp (disch := omega) only [go_sem, nr_1, hn, divInt_1]; refine ⟨_, c_rational_Div _ _ (by omega) hy, ?_⟩; refine K24 _ ?_; simp (disch := omega) only [go_sem, nr_1, hn, divInt_1]; refine K23 _ ?_; clear K24 K23; refine pwx_sr 0 [] (by rfl) fun _ K25 => ?_; refine rgnX_take 3 fun _ K26 => ?_; simp (disch := omega) only [go_sem, nr_1, hn, divInt_1]; refine ⟨_, c_rational_Add _ _ (by omega), ?_⟩; refine K26 _ ?_; simp (disch := omega) only [go_sem, nr_1, hn, divInt_1]; refine K25 _ ?_; clear K26 K25; refine pwp_ret ?_; refine ⟨Or.inr rfl, ?_⟩; simp (disch := omega) only [go_sem, nr_1, hn, divInt_1]
  all_goals rfl

end Go.Proofs.YtdojhoegildiaaaGreat
