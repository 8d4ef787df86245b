/- The pure layer, eleventh part: independent operations may be exchanged; the theorem on regions that draw their order. Conditions: none (lemmas).
   The pure layer, twelfth part: regions, whatever order is drawn. Conditions: none (lemmas).
   The pure layer, thirteenth part: rules for code, and for whole functions. Conditions: none (lemmas).
   The seat's types, as the pure layer asks them. Conditions: none (closed facts).
   The pure layer, fourteenth part: calls that write the block of their first argument, and calls whose result is a new local block. Conditions: none (lemmas).
   The pure layer, fifteenth part: local blocks change their numbers. Conditions: none (lemmas).
   Limbs: lists of digits in the base 10^9, their values, and how integers and fractions stand as pure cells. Conditions: none (definitions and lemmas).
   The pure layer: what the walks' simp knows. Conditions: none.
   Limbs in the walks: reading, cutting and writing them; machine numbers that are natural numbers. Conditions: each lemma's own.
   Limbs in the walks: conditional lemmas, of which omega shows the conditions, and what loops keep. Conditions: each lemma's own.
   Limbs: the plain laws of the loops (comparing, adding, subtracting, multiplying, dividing by one limb). Conditions: each lemma's own. -/
import Derived.Test.YtdojhoegildiaaaGreatProg
import Derived.KernelRfl
import Derived.Attr
import Derived.Test.YtdojhoegildiaaaGreatQ1
set_option linter.unusedVariables false
set_option linter.unusedSimpArgs false
namespace Go.PL
open Go.RowKit

section
variable {P : Program} {md : Md} {ops : List Oper}

def St.eff (s : St) (dst : Option Tmp) (m : Option (Nat × List PC)) (v : PV) : St :=
  match m with
  | none => s.put dst v
  | some (id, cs) => (s.box id cs).put dst v

def EffA (P : Program) (wf : Bool) (nid : Nat) (s : St) (m : Option (Nat × List PC)) (v : PV) : A1 → Prop
  | .val u => m = none ∧ v = u
  | .mk n cs => m = none ∧ v = .e (.c (.sl n cs))
  | .new u cs => s.st[nid]? = some .gone ∧ m = some (nid, cs) ∧ v = u nid
  | .sto id off cs => ∃ ds, s.st[id]? = some (.live ds) ∧ off + cs.length ≤ ds.length ∧ cs ≠ [] ∧ m = some (id, splice ds off cs) ∧ v = .t []
  | .call f l => (wf = true ∧ ∃ id off rest cs cs', l = .c (.ptr id off) :: rest ∧ s.st[id]? = some (.live cs) ∧ RetW P f l id cs v cs' ∧ m = some (id, cs')) ∨ (wf = false ∧ l.all PE.im = true ∧ m = none ∧ Ret P f l v)
  | _ => False

def Eff (P : Program) (md : Md) (ops : List Oper) (nid : Nat) (o : Oper) (s : St) (m : Option (Nat × List PC)) (v : PV) : Prop :=
  (wantedP ops s o = some false ∧ m = none ∧ v = .t []) ∨ (wantedP ops s o = some true ∧ EffA P (wfOp md o.op) nid s m v (evA P md.mb s o.op))

theorem step1_eff (hdr : md.dr = true) {nid : Nat} {o : Oper} (hna : md.ap = false ∨ heavy md o.op = false) {K : St → Prop} {s : St} : step1 P md ops nid o K s ↔ ∃ m v, Eff P md ops nid o s m v ∧ K (s.eff o.dst m v) := by
  unfold step1 Eff
  rw [mdOf_n hna]
  cases hw : wantedP ops s o with
  | none => simp
  | some b =>
    cases b with
    | false =>
      constructor
      · intro h; exact ⟨none, .t [], .inl ⟨rfl, rfl, rfl⟩, h⟩
      · rintro ⟨m, v, ⟨_, rfl, rfl⟩ | ⟨h, _⟩, hk⟩
        · exact hk
        · simp at h
    | true =>
      simp only [Option.some.injEq, Bool.true_eq_false, false_and, true_and, false_or]
      cases hev : evA P md.mb s o.op with
      | val u => exact ⟨fun h => ⟨none, u, ⟨rfl, rfl⟩, h⟩, by rintro ⟨m, v, ⟨rfl, rfl⟩, hk⟩; exact hk⟩
      | mk n cs => exact ⟨fun h => ⟨none, _, ⟨rfl, rfl⟩, h⟩, by rintro ⟨m, v, ⟨rfl, rfl⟩, hk⟩; exact hk⟩
      | new u cs => exact ⟨fun h => ⟨some (nid, cs), _, ⟨h.1, rfl, rfl⟩, h.2⟩, by rintro ⟨m, v, ⟨hg, rfl, rfl⟩, hk⟩; exact ⟨hg, hk⟩⟩
      | sto id off cs =>
        constructor
        · rintro ⟨ds, h1, h2, h3, hk⟩; exact ⟨some (id, splice ds off cs), .t [], ⟨ds, h1, h2, h3, rfl, rfl⟩, hk⟩
        · rintro ⟨m, v, ⟨ds, h1, h2, h3, rfl, rfl⟩, hk⟩; exact ⟨ds, h1, h2, h3, hk⟩
      | call f l =>
        simp only [actS, callS, hdr, Bool.true_eq_false, false_and, true_or, and_true]
        cases hwf : wfOp md o.op with
        | true =>
          simp only [if_true]
          constructor
          · rintro ⟨id, off, rest, cs, cs', r, h1, h2, h3, hk⟩; exact ⟨some (id, cs'), r, .inl ⟨rfl, id, off, rest, cs, cs', h1, h2, h3, rfl⟩, hk⟩
          · rintro ⟨m, v, ⟨_, id, off, rest, cs, cs', h1, h2, h3, rfl⟩ | ⟨h, _⟩, hk⟩
            · exact ⟨id, off, rest, cs, cs', v, h1, h2, h3, hk⟩
            · simp at h
        | false =>
          simp only [Bool.false_eq_true, if_false]
          constructor
          · intro h
            split at h
            · rename_i h1
              obtain ⟨r, h2, hk⟩ := h
              exact ⟨none, r, .inr ⟨rfl, h1, rfl, h2⟩, hk⟩
            · exact h.elim
          · rintro ⟨m, v, ⟨h, _⟩ | ⟨_, h1, rfl, h2⟩, hk⟩
            · simp at h
            · rw [if_pos h1]; exact ⟨v, h2, hk⟩
      | app base sz z n cs =>
        constructor
        · rintro ⟨h, _⟩
          rw [hdr] at h; cases h
        · rintro ⟨m, v, h, _⟩; exact h.elim
      | bad => exact ⟨fun h => h.elim, by rintro ⟨m, v, h, _⟩; exact h.elim⟩

def looks (ops : List Oper) (o : Oper) : List Tmp :=
  (o.op.operands.toList.filterMap fun | .tmp t => some t | _ => none) ++
  (match o.guard with
   | some (g, _) => ((ops[g]?).bind (·.dst)).toList
   | none => [])

def apart (ops : List Oper) (x y : Oper) : Bool :=
  (match x.dst with
   | some d => !(looks ops y).contains d && y.dst != some d
   | none => true) &&
  (match y.dst with
   | some d => !(looks ops x).contains d
   | none => true)

theorem wantedP_congr {o : Oper} {s s' : St} (h : ∀ t ∈ looks ops o, s'.slots[t]? = s.slots[t]?) : wantedP ops s' o = wantedP ops s o := by
  unfold wantedP
  cases hg : o.guard with
  | none => rfl
  | some g =>
    obtain ⟨j, want⟩ := g
    simp only
    cases hd : (ops[j]?).bind (·.dst) with
    | none => rfl
    | some d =>
      simp only
      rw [h d (by simp [looks, hg, hd])]

theorem operands_looks {o : Oper} {t : Tmp} (h : .tmp t ∈ o.op.operands) : t ∈ looks ops o := by
  unfold looks
  refine List.mem_append_left _ (List.mem_filterMap.2 ⟨.tmp t, by simpa using h, rfl⟩)

theorem Eff.congr {nid : Nat} {o : Oper} {s s' : St} {m : Option (Nat × List PC)} {v : PV} (h : Eff P md ops nid o s m v) (hs : ∀ t ∈ looks ops o, s'.slots[t]? = s.slots[t]?)
    (hev : evA P md.mb s o.op ≠ .bad → evA P md.mb s' o.op = evA P md.mb s o.op) (hm : ∀ id cs, m = some (id, cs) → s'.st[id]? = s.st[id]?) : Eff P md ops nid o s' m v := by
  unfold Eff at h ⊢
  rw [wantedP_congr hs]
  rcases h with h | ⟨h1, h2⟩
  · exact .inl h
  · refine .inr ⟨h1, ?_⟩
    rw [hev (by intro hb; rw [hb] at h2; exact h2)]
    cases hx : evA P md.mb s o.op with
    | val u => rw [hx] at h2; exact h2
    | mk n cs => rw [hx] at h2; exact h2
    | new u cs =>
      rw [hx] at h2
      obtain ⟨g1, rfl, rfl⟩ := h2
      exact ⟨by rw [hm _ _ rfl]; exact g1, rfl, rfl⟩
    | sto id off cs =>
      rw [hx] at h2
      obtain ⟨ds, g1, g2, g3, rfl, rfl⟩ := h2
      exact ⟨ds, by rw [hm _ _ rfl]; exact g1, g2, g3, rfl, rfl⟩
    | call f l =>
      rw [hx] at h2
      rcases h2 with ⟨g0, id, off, rest, cs, cs', g1, g2, g3, rfl⟩ | h2
      · exact .inl ⟨g0, id, off, rest, cs, cs', g1, by rw [hm _ _ rfl]; exact g2, g3, rfl⟩
      · exact .inr h2
    | app base sz z n cs => rw [hx] at h2; exact h2
    | bad => rw [hx] at h2; exact h2

@[simp] theorem eff_st (s : St) (d : Option Tmp) (m : Option (Nat × List PC)) (v : PV) : (s.eff d m v).st = match m with | none => s.st | some (id, cs) => s.st.set id (.live cs) := by
  cases m with
  | none => simp [St.eff]
  | some x => obtain ⟨id, cs⟩ := x; simp [St.eff, St.box]

theorem eff_slots {s : St} {d : Option Tmp} {m : Option (Nat × List PC)} {v : PV} {t : Tmp} (h : d ≠ some t) : (s.eff d m v).slots[t]? = s.slots[t]? := by
  have key : ∀ s : St, (s.put d v).slots[t]? = s.slots[t]? := fun s => by
    cases d with
    | none => rfl
    | some d => simp only [St.put]; exact List.getElem?_set_ne fun e => h (by rw [e])
  cases m with
  | none => exact key s
  | some x => exact (key _).trans rfl

theorem eff_comm {s : St} {d d' : Option Tmp} {m m' : Option (Nat × List PC)} {v v' : PV} (hd : ∀ t, d = some t → d' ≠ some t) (hm : ∀ id cs id' cs', m = some (id, cs) → m' = some (id', cs') → id ≠ id') :
    (s.eff d m v).eff d' m' v' = (s.eff d' m' v').eff d m v := by
  have hp : ∀ s : St, (s.put d v).put d' v' = (s.put d' v').put d v := fun s => by
    cases d with
    | none => rfl
    | some t =>
      cases d' with
      | none => rfl
      | some t' =>
        have : t ≠ t' := fun e => hd t rfl (by rw [e])
        simp only [St.put]
        rw [List.set_comm _ _ this]
  have hb : ∀ (s : St) (id : Nat) (cs : List PC) (d : Option Tmp) (v : PV), (s.put d v).box id cs = (s.box id cs).put d v := fun s id cs d v => by cases d <;> rfl
  cases m with
  | none =>
    cases m' with
    | none => exact hp s
    | some x => obtain ⟨id, cs⟩ := x; simp only [St.eff, hb]; rw [hp]
  | some x =>
    obtain ⟨id, cs⟩ := x
    cases m' with
    | none => simp only [St.eff, hb]; rw [hp]
    | some y =>
      obtain ⟨id', cs'⟩ := y
      have hne := hm id cs id' cs' rfl rfl
      simp only [St.eff, hb]
      rw [hp]
      congr 2
      simp only [St.box]
      rw [List.set_comm _ _ hne]

theorem cl_wf {op : Op} (h : wfOp md op = true) : cl md op = .st := by
  unfold wfOp calleeOf at h
  split at h
  · rename_i f hf
    split at hf
    · rename_i f' args tys
      simp only [Option.some.injEq] at hf
      subst hf
      simp [cl, wfOp, calleeOf, h]
    · simp at hf
  · simp at h

theorem Eff.block {nid : Nat} {o : Oper} {s : St} {m : Option (Nat × List PC)} {v : PV} (h : Eff P md ops nid o s m v) {id : Nat} {cs : List PC} (hm : m = some (id, cs)) :
    (cl md o.op = .nw ∧ s.st[id]? = some .gone) ∨ (cl md o.op = .st ∧ ∃ ds, s.st[id]? = some (.live ds)) := by
  subst hm
  rcases h with ⟨_, h, _⟩ | ⟨_, h⟩
  · simp at h
  · obtain ⟨dst, op, ty, pos, after, guard⟩ := o
    simp only at h
    cases hx : evA P md.mb s op with
    | val u => rw [hx] at h; simp [EffA] at h
    | mk n cs => rw [hx] at h; simp [EffA] at h
    | new u cs' =>
      rw [hx] at h
      obtain ⟨g1, g2, _⟩ := h
      simp only [Option.some.injEq, Prod.mk.injEq] at g2
      obtain ⟨rfl, rfl⟩ := g2
      refine .inl ⟨?_, g1⟩
      cases op <;> first | rfl | (exfalso; simp only [evA] at hx)
      case move x => unfold A1.ofPV at hx; split at hx <;> cases hx
      case assign x => unfold A1.ofPV at hx; split at hx <;> cases hx
      case pick => split at hx <;> try (cases hx; done)
                   unfold A1.ofPV at hx; split at hx <;> cases hx
      case build => repeat' (split at hx)
                    all_goals try (cases hx; done)
                    unfold A1.ofPE at hx; split at hx <;> cases hx
      case load => repeat' (split at hx)
                   all_goals try (cases hx; done)
                   unfold A1.ofPE at hx; split at hx <;> cases hx
      case store => (repeat' (split at hx)) <;> cases hx
      case nilCheck => (repeat' (split at hx)) <;> cases hx
      case binOp => split at hx <;> try (cases hx; done)
                    unfold A1.ofPC at hx; split at hx <;> cases hx
      case unOp => split at hx <;> try (cases hx; done)
                   unfold A1.ofPC at hx; split at hx <;> cases hx
      case convert => (repeat' (split at hx)) <;> cases hx
      case slice => repeat' (split at hx)
                    all_goals try (cases hx; done)
                    unfold A1.ofPC at hx; split at hx <;> cases hx
      case fieldAddr => split at hx <;> try (cases hx; done)
                        unfold A1.ofPC at hx; split at hx <;> cases hx
      case field => split at hx <;> try (cases hx; done)
                    unfold A1.ofPE at hx; split at hx <;> cases hx
      case indexAddr => repeat' (split at hx)
                        all_goals try (cases hx; done)
                        unfold A1.ofPC at hx; split at hx <;> cases hx
      case makeFunc => unfold evF at hx; split at hx <;> cases hx
      case extract => split at hx <;> try (cases hx; done)
                      unfold A1.ofPE at hx; split at hx <;> cases hx
      case call c =>
        split at hx
        · repeat' (split at hx)
          all_goals try (cases hx; done)
          unfold appA at hx
          repeat' (split at hx)
          all_goals (cases hx)
        · unfold evB at hx
          repeat' (split at hx)
          all_goals try (cases hx; done)
          unfold A1.ofPC at hx; split at hx <;> cases hx
        · repeat' (split at hx)
          all_goals (cases hx)
        · cases hx
      all_goals (cases hx)
    | sto id' off cs' =>
      rw [hx] at h
      obtain ⟨ds, g1, _, _, g2, _⟩ := h
      simp only [Option.some.injEq, Prod.mk.injEq] at g2
      obtain ⟨rfl, rfl⟩ := g2
      refine .inr ⟨?_, ds, g1⟩
      cases op <;> first | rfl | (exfalso; simp only [evA] at hx)
      case move x => unfold A1.ofPV at hx; split at hx <;> cases hx
      case assign x => unfold A1.ofPV at hx; split at hx <;> cases hx
      case pick => split at hx <;> try (cases hx; done)
                   unfold A1.ofPV at hx; split at hx <;> cases hx
      case alloc => (repeat' (split at hx)) <;> cases hx
      case box => (repeat' (split at hx)) <;> cases hx
      case build => repeat' (split at hx)
                    all_goals try (cases hx; done)
                    unfold A1.ofPE at hx; split at hx <;> cases hx
      case buildSlice => (repeat' (split at hx)) <;> cases hx
      case load => repeat' (split at hx)
                   all_goals try (cases hx; done)
                   unfold A1.ofPE at hx; split at hx <;> cases hx
      case nilCheck => (repeat' (split at hx)) <;> cases hx
      case binOp => split at hx <;> try (cases hx; done)
                    unfold A1.ofPC at hx; split at hx <;> cases hx
      case unOp => split at hx <;> try (cases hx; done)
                   unfold A1.ofPC at hx; split at hx <;> cases hx
      case convert => (repeat' (split at hx)) <;> cases hx
      case makeSlice => (repeat' (split at hx)) <;> cases hx
      case slice => repeat' (split at hx)
                    all_goals try (cases hx; done)
                    unfold A1.ofPC at hx; split at hx <;> cases hx
      case fieldAddr => split at hx <;> try (cases hx; done)
                        unfold A1.ofPC at hx; split at hx <;> cases hx
      case field => split at hx <;> try (cases hx; done)
                    unfold A1.ofPE at hx; split at hx <;> cases hx
      case indexAddr => repeat' (split at hx)
                        all_goals try (cases hx; done)
                        unfold A1.ofPC at hx; split at hx <;> cases hx
      case makeFunc => unfold evF at hx; split at hx <;> cases hx
      case extract => split at hx <;> try (cases hx; done)
                      unfold A1.ofPE at hx; split at hx <;> cases hx
      case call c =>
        split at hx
        · repeat' (split at hx)
          all_goals try (cases hx; done)
          unfold appA at hx
          repeat' (split at hx)
          all_goals (cases hx)
        · unfold evB at hx
          repeat' (split at hx)
          all_goals try (cases hx; done)
          unfold A1.ofPC at hx; split at hx <;> cases hx
        · repeat' (split at hx)
          all_goals (cases hx)
        · cases hx
      all_goals (cases hx)
    | call f l =>
      rw [hx] at h
      rcases h with ⟨g0, id', off, rest, ds, cs', g1, g2, g3, g4⟩ | ⟨_, _, g, _⟩
      · simp only [Option.some.injEq, Prod.mk.injEq] at g4
        obtain ⟨rfl, rfl⟩ := g4
        refine .inr ⟨?_, ds, g2⟩
        exact cl_wf g0
      · simp at g
    | app base sz z n cs' => rw [hx] at h; exact h.elim
    | bad => rw [hx] at h; exact h.elim

def memOk : Cl → Cl → Bool
  | .n, _ | _, .n | .r, .r | .r, .nw | .nw, .nw | .st, .nw => true
  | _, _ => false

def loadAddr : Op → Option Tmp
  | .load _ (.tmp x) => some x
  | _ => none
def effAddr : Op → Option Tmp
  | .store _ (.tmp y) _ => some y
  | .call { callee := .value (.func _), args := args, .. } => match args.toList with
    | .tmp y :: _ => some y
    | _ => none
  | _ => none

def aliasOf (x y : Op) : Option (Tmp × Tmp) :=
  match loadAddr x, effAddr y with
  | some a, some b => some (a, b)
  | _, _ => match effAddr x, loadAddr y with
    | some b, some a => some (a, b)
    | _, _ => none

theorem loadAddr_inv {op : Op} {x : Tmp} (h : loadAddr op = some x) : ∃ t, op = .load t (.tmp x) := by
  unfold loadAddr at h
  split at h
  · simp only [Option.some.injEq] at h; subst h; exact ⟨_, rfl⟩
  · simp at h
theorem aliasOf_inv {x y : Op} {p : Tmp × Tmp} (h : aliasOf x y = some p) : (loadAddr x = some p.1 ∧ effAddr y = some p.2) ∨ (effAddr x = some p.2 ∧ loadAddr y = some p.1) := by
  unfold aliasOf at h
  split at h
  · rename_i a b h1 h2
    simp only [Option.some.injEq] at h; subst h; exact .inl ⟨h1, h2⟩
  · split at h
    · rename_i b a h1 h2
      simp only [Option.some.injEq] at h; subst h; exact .inr ⟨h1, h2⟩
    · simp at h

def Differ (s : St) (p : Tmp × Tmp) : Prop := ∃ id off id' off', s.slots[p.1]? = some (.e (.c (.ptr id off))) ∧ s.slots[p.2]? = some (.e (.c (.ptr id' off'))) ∧ id ≠ id'

def DifferW (s : St) (p : Tmp × Tmp) : Prop := ∀ id off id' off', s.slots[p.1]? = some (.e (.c (.ptr id off))) → s.slots[p.2]? = some (.e (.c (.ptr id' off'))) → id ≠ id'
theorem Differ.weak {s : St} {p : Tmp × Tmp} (h : Differ s p) : DifferW s p := by
  obtain ⟨a, b, c, d, h1, h2, h3⟩ := h
  intro id off id' off' g1 g2
  rw [h1] at g1; rw [h2] at g2
  simp only [Option.some.injEq, PV.e.injEq, PE.c.injEq, PC.ptr.injEq] at g1 g2
  rw [← g1.1, ← g2.1]; exact h3

theorem evA_load_weak {s s' : St} {t : TypeId} {x : Tmp} (hx' : s'.slots[x]? = s.slots[x]?) (hst : ∀ id off, s.slots[x]? = some (.e (.c (.ptr id off))) → s'.st[id]? = s.st[id]?) :
    evA P md.mb s' (.load t (.tmp x)) = evA P md.mb s (.load t (.tmp x)) := by
  simp only [evA, St.pe, hx']
  cases hx : s.slots[x]? with
  | none => rfl
  | some v =>
    cases v with
    | t xs => rfl
    | e y =>
      cases y with
      | a cs => rfl
      | c p =>
        cases p with
        | ptr id off => simp only [loadA, hst id off hx]
        | _ => rfl
    | _ => rfl
theorem effAddr_looks {o : Oper} {y : Tmp} (h : effAddr o.op = some y) : y ∈ looks ops o := by
  refine operands_looks ?_
  obtain ⟨dst, op, ty, pos, after, guard⟩ := o
  simp only at h ⊢
  unfold effAddr at h
  split at h
  · simp only [Option.some.injEq] at h; subst h; simp [Op.operands]
  · split at h
    · rename_i hargs
      simp only [Option.some.injEq] at h; subst h
      simp only [Op.operands, Call.operands]
      refine Array.mem_append.2 (.inr ?_)
      rw [← Array.mem_toList_iff, hargs]; simp
    · simp at h
  · simp at h

theorem Eff.eff_id {nid : Nat} {o : Oper} {s : St} {m : Option (Nat × List PC)} {v : PV} (h : Eff P md ops nid o s m v) {y : Tmp} (ho : effAddr o.op = some y) {id off : Nat}
    (hy : s.slots[y]? = some (.e (.c (.ptr id off)))) {id' : Nat} {cs : List PC} (hm : m = some (id', cs)) : id' = id := by
  subst hm
  rcases h with ⟨_, h, _⟩ | ⟨_, h⟩
  · simp at h
  · obtain ⟨dst, op, ty, pos, after, guard⟩ := o
    simp only at ho h
    unfold effAddr at ho
    split at ho
    · simp only [Option.some.injEq] at ho
      subst ho
      simp only [evA, St.pe, hy] at h
      split at h
      · rename_i id2 off2 p i h1 h2 h3
        simp only [Option.some.injEq, PE.c.injEq, PC.ptr.injEq] at h1
        obtain ⟨rfl, rfl⟩ := h1
        split at h
        · obtain ⟨ds, _, _, _, g, _⟩ := h
          simp only [Option.some.injEq, Prod.mk.injEq] at g
          exact g.1
        · exact h.elim
      · exact h.elim
    · split at ho
      · rename_i f args tys y' rest hargs
        simp only [Option.some.injEq] at ho
        subst ho
        simp only [evA, hargs, St.peAll, St.pe, hy] at h
        split at h
        · rename_i g l hg hl
          simp only [Option.some.injEq, PE.c.injEq, PC.fn.injEq] at hg
          subst hg
          split at hl <;> try (cases hl; done)
          rename_i p ps h1 h2
          simp only [Option.some.injEq] at h1 hl
          subst h1; subst hl
          rcases h with ⟨_, id2, off2, rest', ds, cs', g1, _, _, g2⟩ | ⟨_, _, g, _⟩
          · simp only [List.map_cons, PE.norm, PC.norm, List.cons.injEq, PE.c.injEq, PC.ptr.injEq] at g1
            simp only [Option.some.injEq, Prod.mk.injEq] at g2
            rw [g2.1]; exact g1.1.1.symm
          · simp at g
        · rename_i g ps l hg hl; simp at hg
        · exact h.elim
      · simp at ho
    · simp at ho

theorem norm_ptr {x : PE} {id off : Nat} (h : x.norm = .c (.ptr id off)) : x = .c (.ptr id off) := by
  cases x with
  | a cs => simp [PE.norm] at h
  | c p => cases p <;> simp_all [PE.norm, PC.norm]

theorem Eff.eff_addr {nid : Nat} {o : Oper} {s : St} {m : Option (Nat × List PC)} {v : PV} (h : Eff P md ops nid o s m v) {y : Tmp} (ho : effAddr o.op = some y) {id' : Nat} {cs : List PC} (hm : m = some (id', cs)) :
    ∃ off, s.slots[y]? = some (.e (.c (.ptr id' off))) := by
  have key : ∃ id off, s.slots[y]? = some (.e (.c (.ptr id off))) := by
    subst hm
    rcases h with ⟨_, h, _⟩ | ⟨_, h⟩
    · simp at h
    · obtain ⟨dst, op, ty, pos, after, guard⟩ := o
      simp only at ho h
      unfold effAddr at ho
      split at ho
      · simp only [Option.some.injEq] at ho
        subst ho
        simp only [evA, St.pe] at h
        split at h
        · rename_i id2 off2 p i h1 h2 h3
          refine ⟨id2, off2, ?_⟩
          split at h1
          · rename_i x hx; simp only [Option.some.injEq] at h1; rw [hx, h1]
          · simp at h1
        · exact h.elim
      · split at ho
        · rename_i f args tys y' rest hargs
          simp only [Option.some.injEq] at ho
          subst ho
          simp only [evA, hargs, St.peAll, St.pe] at h
          split at h
          · rename_i g l hg hl
            split at hl <;> try (cases hl; done)
            rename_i p ps h1 h2
            simp only [Option.some.injEq] at hl
            subst hl
            rcases h with ⟨_, id2, off2, rest', ds, cs', g1, _, _, g2⟩ | ⟨_, _, g, _⟩
            · simp only [List.map_cons, List.cons.injEq] at g1
              have := norm_ptr g1.1
              subst this
              refine ⟨id2, off2, ?_⟩
              split at h1
              · rename_i x hx; simp only [Option.some.injEq] at h1; rw [hx, h1]
              · simp at h1
            · simp at g
          · rename_i g ps l hg hl; simp at hg
          · exact h.elim
        · simp at ho
      · simp at ho
  obtain ⟨id, off, hk⟩ := key
  have := h.eff_id ho hk hm
  subst this
  exact ⟨off, hk⟩

theorem Eff.swap {ni nj : Nat} {oi oj : Oper} {s : St} {mi mj : Option (Nat × List PC)} {vi vj : PV} (hap : apart ops oi oj = true) (hmem : memOk (cl md oi.op) (cl md oj.op) = true ∨ ∃ p, aliasOf oi.op oj.op = some p ∧ DifferW s p)
    (hi : Eff P md ops ni oi s mi vi) (hj : Eff P md ops nj oj (s.eff oi.dst mi vi) mj vj) :
    Eff P md ops nj oj s mj vj ∧ Eff P md ops ni oi (s.eff oj.dst mj vj) mi vi ∧ (s.eff oj.dst mj vj).eff oi.dst mi vi = (s.eff oi.dst mi vi).eff oj.dst mj vj := by
  have h1 : ∀ t ∈ looks ops oj, oi.dst ≠ some t := fun t ht hd => by
    simp only [apart, hd, Bool.and_eq_true, Bool.not_eq_true', List.contains_eq_mem, decide_eq_false_iff_not] at hap
    exact hap.1.1 ht
  have h2 : ∀ t, oi.dst = some t → oj.dst ≠ some t := fun t hd hd' => by
    simp [apart, hd, hd'] at hap
  have h3 : ∀ t ∈ looks ops oi, oj.dst ≠ some t := fun t ht hd => by
    simp only [apart, hd, Bool.and_eq_true, Bool.not_eq_true', List.contains_eq_mem, decide_eq_false_iff_not] at hap
    exact hap.2 ht
  have sl1 : ∀ t ∈ looks ops oj, s.slots[t]? = (s.eff oi.dst mi vi).slots[t]? := fun t ht => (eff_slots (h1 t ht)).symm
  have sl2 : ∀ t ∈ looks ops oi, (s.eff oj.dst mj vj).slots[t]? = s.slots[t]? := fun t ht => eff_slots (h3 t ht)
  -- blocks
  have bi := fun (id : Nat) (cs : List PC) (h : mi = some (id, cs)) => hi.block h
  have bj := fun (id : Nat) (cs : List PC) (h : mj = some (id, cs)) => hj.block h
  have lt_of : ∀ {σ : List Box} {id : Nat} {b : Box}, σ[id]? = some b → id < σ.length := fun {σ id b} h => by
    rcases Nat.lt_or_ge id σ.length with q | q
    · exact q
    · rw [List.getElem?_eq_none q] at h; simp at h
  -- the two blocks differ
  have hne : ∀ id cs id' cs', mi = some (id, cs) → mj = some (id', cs') → id ≠ id' := by
    intro id cs id' cs' hmi hmj he
    subst he
    have hst : (s.eff oi.dst mi vi).st[id]? = some (.live cs) := by
      rw [eff_st, hmi]
      have : id < s.st.length := by rcases bi id cs hmi with ⟨_, q⟩ | ⟨_, ds, q⟩ <;> exact lt_of q
      exact List.getElem?_set_self this
    rcases bj id cs' hmj with ⟨c, q⟩ | ⟨c, ds, q⟩
    · rw [hst] at q; simp at q
    · rcases hmem with hmem | ⟨p, hp, _⟩
      · rcases bi id cs hmi with ⟨c', _⟩ | ⟨c', _⟩ <;> rw [c, c'] at hmem <;> simp [memOk] at hmem
      · rcases aliasOf_inv hp with ⟨g, _⟩ | ⟨_, g⟩
        · obtain ⟨t, ht⟩ := loadAddr_inv g
          rcases bi id cs hmi with ⟨c', _⟩ | ⟨c', _⟩ <;> rw [ht] at c' <;> simp [cl] at c'
        · obtain ⟨t, ht⟩ := loadAddr_inv g
          rw [ht] at c; simp [cl] at c
  have stj : ∀ id cs, mj = some (id, cs) → s.st[id]? = (s.eff oi.dst mi vi).st[id]? := by
    intro id cs hmj
    rw [eff_st]
    cases hmi : mi with
    | none => rfl
    | some x =>
      obtain ⟨id', cs'⟩ := x
      simp only
      rw [List.getElem?_set_ne (hne id' cs' id cs hmi hmj)]
  have sti : ∀ id cs, mi = some (id, cs) → (s.eff oj.dst mj vj).st[id]? = s.st[id]? := by
    intro id cs hmi
    rw [eff_st]
    cases hmj : mj with
    | none => rfl
    | some x =>
      obtain ⟨id', cs'⟩ := x
      simp only
      rw [List.getElem?_set_ne (Ne.symm (hne id cs id' cs' hmi hmj))]
  -- what the second computes first
  have evj : evA P md.mb (s.eff oi.dst mi vi) oj.op ≠ .bad → evA P md.mb s oj.op = evA P md.mb (s.eff oi.dst mi vi) oj.op := by
    intro hb
    by_cases hr : cl md oj.op = .r
    · cases hmi : mi with
      | none =>
        rw [hmi] at hb sl1
        refine evA_mono md (fun t ht => sl1 t (operands_looks ht)) (fun id b hbx _ => ?_) hb
        rw [eff_st] at hbx
        exact hbx
      | some x =>
        obtain ⟨id, cs⟩ := x
        rcases hmem with hmem | ⟨p, hp, hdf⟩
        · exfalso
          rw [hr] at hmem
          rcases bi id cs hmi with ⟨c, _⟩ | ⟨c, _⟩ <;> rw [c] at hmem <;> simp [memOk] at hmem
        · rcases aliasOf_inv hp with ⟨g, _⟩ | ⟨g1, g2⟩
          · exfalso
            obtain ⟨t, ht⟩ := loadAddr_inv g
            rcases bi id cs hmi with ⟨c', _⟩ | ⟨c', _⟩ <;> rw [ht] at c' <;> simp [cl] at c'
          · obtain ⟨t, ht⟩ := loadAddr_inv g2
            obtain ⟨off2, e2⟩ := hi.eff_addr g1 hmi
            rw [← hmi, ht]
            refine (evA_load_weak (s := s) (s' := s.eff oi.dst mi vi) (sl1 _ (operands_looks (by rw [ht]; simp [Op.operands]))).symm (fun id1 off1 e1 => ?_)).symm
            rw [eff_st, hmi]
            exact List.getElem?_set_ne (Ne.symm (hdf _ _ _ _ e1 e2))
    · exact evA_congr md (fun t ht => sl1 t (operands_looks ht)) hr
  have evi : evA P md.mb s oi.op ≠ .bad → evA P md.mb (s.eff oj.dst mj vj) oi.op = evA P md.mb s oi.op := by
    intro hb
    by_cases hr : cl md oi.op = .r
    · have hmi : mi = none := by
        cases hmi : mi with
        | none => rfl
        | some x =>
          obtain ⟨id, cs⟩ := x
          rcases bi id cs hmi with ⟨c, _⟩ | ⟨c, _⟩ <;> rw [hr] at c <;> simp at c
      cases hmj : mj with
      | none =>
        rw [hmj] at sl2
        refine evA_mono md (fun t ht => sl2 t (operands_looks ht)) (fun id b hbx _ => ?_) hb
        rw [eff_st]
        exact hbx
      | some x =>
        obtain ⟨id, cs⟩ := x
        rcases bj id cs hmj with ⟨c, q⟩ | ⟨c, ds, q⟩
        · rw [hmj] at sl2
          refine evA_mono md (fun t ht => sl2 t (operands_looks ht)) (fun id' b hbx hbg => ?_) hb
          rw [eff_st]
          simp only
          rw [List.getElem?_set_ne]
          · exact hbx
          · rintro rfl
            rw [eff_st, hmi] at q
            simp only at q
            rw [hbx] at q
            simp only [Option.some.injEq] at q
            exact hbg q
        · rcases hmem with hmem | ⟨p, hp, hdf⟩
          · rw [hr, c] at hmem; simp [memOk] at hmem
          · rcases aliasOf_inv hp with ⟨g1, g2⟩ | ⟨_, g⟩
            · obtain ⟨t, ht⟩ := loadAddr_inv g1
              obtain ⟨off2, e2⟩ := hj.eff_addr g2 hmj
              rw [← sl1 _ (effAddr_looks g2)] at e2
              rw [← hmj, ht]
              refine evA_load_weak (sl2 _ (operands_looks (by rw [ht]; simp [Op.operands]))) (fun id1 off1 e1 => ?_)
              rw [eff_st, hmj]
              exact List.getElem?_set_ne (Ne.symm (hdf _ _ _ _ e1 e2))
            · exfalso
              obtain ⟨t, ht⟩ := loadAddr_inv g
              rw [ht] at c; simp [cl] at c
    · exact evA_congr md (fun t ht => sl2 t (operands_looks ht)) hr
  exact ⟨hj.congr sl1 evj stj, hi.congr sl2 evi sti, (eff_comm h2 hne).symm⟩


def light (md : Md) (op : Op) : Bool := cl md op == .n && match op with
  | .call { callee := .builtin _, .. } => true
  | .call _ => false
  | _ => true
def VB (r : A1) : Prop := (∃ v, r = .val v) ∨ r = .bad
theorem ofPV_vb (x : Option PV) : VB (A1.ofPV x) := by cases x with | none => exact .inr rfl | some v => exact .inl ⟨v, rfl⟩
theorem ofPE_vb (x : Option PE) : VB (A1.ofPE x) := by cases x with | none => exact .inr rfl | some v => exact .inl ⟨_, rfl⟩
theorem ofPC_vb (x : Option PC) : VB (A1.ofPC x) := by cases x with | none => exact .inr rfl | some v => exact .inl ⟨_, rfl⟩
theorem light_val {op : Op} (h : light md op = true) (s : St) : VB (evA P md.mb s op) := by
  cases op
  case call c =>
    obtain ⟨callee, args, tys⟩ := c
    cases callee with
    | builtin b =>
      by_cases hb : b = .append
      · subst hb; exfalso; simp [light, cl] at h
      · have e : evA P md.mb s (.call ⟨.builtin b, args, tys⟩) = evB P s b args.toList tys := by cases b <;> first | rfl | exact absurd rfl hb
        rw [e]; unfold evB
        repeat' split
        all_goals first | exact ofPC_vb _ | exact .inr rfl | exact .inl ⟨_, rfl⟩
    | value f => exfalso; simp [light] at h
    | invoke r m => exfalso; simp [light] at h
  all_goals first | (exfalso; simp [light, cl] at h; done) | simp only [evA]
  case makeFunc => unfold evF; split <;> first | exact .inr rfl | exact .inl ⟨_, rfl⟩
  all_goals first
    | exact ofPV_vb _
    | exact ofPE_vb _
    | exact ofPC_vb _
    | exact .inr rfl
    | (repeat' split
       all_goals first | exact ofPV_vb _ | exact ofPE_vb _ | exact ofPC_vb _ | exact .inr rfl | exact .inl ⟨_, rfl⟩)
noncomputable def lv (P : Program) (md : Md) (ops : List Oper) (y : Oper) (s : St) : Option PV := match wantedP ops s y with
  | none => none
  | some false => some (.t [])
  | some true => match evA P md.mb s y.op with
    | .val v => some v
    | _ => none
theorem light_nh {op : Op} (h : light md op = true) : heavy md op = false := by
  unfold light at h
  cases op <;> try rfl
  case call c =>
    obtain ⟨callee, args, tys⟩ := c
    cases callee with
    | builtin b =>
      cases b <;> first | rfl | (exfalso; simp [cl] at h)
    | value f => simp at h
    | invoke r m => rfl
theorem light_step {nid : Nat} {y : Oper} (hy : light md y.op = true) {K : St → Prop} {s : St} : step1 P md ops nid y K s ↔ ∃ v, lv P md ops y s = some v ∧ K (s.put y.dst v) := by
  unfold step1 lv
  rw [mdOf_n (.inr (light_nh hy))]
  cases hw : wantedP ops s y with
  | none => simp
  | some b =>
    cases b with
    | false => simp
    | true =>
      simp only
      rcases light_val (P := P) hy s with ⟨v, hv⟩ | hv
      · rw [hv]; simp [actS]
      · rw [hv]; simp [actS]
theorem light_n {op : Op} (h : light md op = true) : cl md op ≠ .r := by
  intro q
  unfold light at h
  rw [q] at h
  simp at h
theorem lv_congr {y : Oper} (hy : light md y.op = true) {s s' : St} (hs : ∀ t ∈ looks ops y, s'.slots[t]? = s.slots[t]?) : lv P md ops y s' = lv P md ops y s := by
  unfold lv
  rw [wantedP_congr hs, evA_congr md (fun t ht => hs t (operands_looks ht)) (light_n hy)]

def HvA (P : Program) (md : Md) (wf : Bool) (nid : Nat) (s : St) (S : List Box → PV → Prop) : A1 → Prop
  | .mk n cs => S = fun σ v => σ = s.st ∧ v = .e (.c (.sl n cs))
  | .app none sz z n cs => (n = 0 ∧ S = fun σ v => σ = s.st ∧ v = .e (.c .nils)) ∨
      (n ≠ 0 ∧ s.st[nid]? = some .gone ∧ S = fun σ v => ∃ c, n ≤ c ∧ σ = s.st.set nid (.live (cs ++ repC (c - n) z)) ∧ v = .e (.c (.msl nid 0 n c sz)))
  | .app (some (id, off, len, cap)) sz z n cs => ∃ ds, s.st[id]? = some (.live ds) ∧
      ((len + n ≤ cap ∧ off + (len + n) * sz ≤ ds.length ∧ S = fun σ v => σ = s.st.set id (.live (splice ds (off + len * sz) cs)) ∧ v = .e (.c (.msl id off (len + n) cap sz))) ∨
       (cap < len + n ∧ off + len * sz ≤ ds.length ∧ s.st[nid]? = some .gone ∧ S = fun σ v => ∃ c, len + n ≤ c ∧ σ = s.st.set nid (.live ((ds.drop off).take (len * sz) ++ cs ++ repC (c - (len + n)) z)) ∧ v = .e (.c (.msl nid 0 (len + n) c sz))))
  | .call f l => (wf = true ∧ ∃ id off rest cs cs' r, l = .c (.ptr id off) :: rest ∧ s.st[id]? = some (.live cs) ∧ RetW P f l id cs r cs' ∧ S = fun σ v => σ = s.st.set id (.live cs') ∧ v = r) ∨
      (wf = false ∧ (l.all PE.im = true ∧ md.ow f = false) ∧ ∃ r, Ret P f l r ∧ S = fun σ v => σ = s.st ∧ v = r) ∨
      (wf = false ∧ ¬ (l.all PE.im = true ∧ md.ow f = false) ∧ ∃ R, RetM P f l s.st R ∧ (∃ r σ', R r σ') ∧ S = fun σ v => R v σ)
  | _ => False
def HvS (P : Program) (md : Md) (ops : List Oper) (nid : Nat) (x : Oper) (s : St) (S : List Box → PV → Prop) : Prop :=
  (wantedP ops s x = some false ∧ S = fun σ v => σ = s.st ∧ v = .t []) ∨ (wantedP ops s x = some true ∧ HvA P md (wfOp md x.op) nid s S (evA P md.mb s x.op))
theorem heavy_ev {op : Op} (hx : heavy md op = true) (s : St) : (∃ n cs, evA P md.mb s op = .mk n cs) ∨ (∃ b sz z n cs, evA P md.mb s op = .app b sz z n cs) ∨ (∃ f l, evA P md.mb s op = .call f l) ∨ evA P md.mb s op = .bad := by
  unfold heavy at hx
  split at hx
  · simp only [evA]
    repeat' split
    all_goals try exact .inr (.inr (.inr rfl))
    unfold appA
    repeat' split
    all_goals first | exact .inr (.inr (.inr rfl)) | exact .inl ⟨_, _, rfl⟩ | exact .inr (.inl ⟨_, _, _, _, _, rfl⟩)
  · simp only [evA]
    repeat' split
    all_goals first | exact .inr (.inr (.inr rfl)) | exact .inr (.inr (.inl ⟨_, _, rfl⟩))
  · simp only [evA]
    repeat' split
    all_goals first | exact .inr (.inr (.inr rfl)) | exact .inr (.inr (.inl ⟨_, _, rfl⟩))
  · cases hx
theorem heavy_form (hdr : md.dr = true) (hap : md.ap = true) {nid : Nat} {x : Oper} (hx : heavy md x.op = true) {K : St → Prop} {s : St} : step1 P md ops nid x K s ↔ ∃ S, HvS P md ops nid x s S ∧ (∃ σ v, S σ v) ∧ ∀ σ v, S σ v → K ({ s with st := σ }.put x.dst v) := by
  unfold step1 HvS
  rw [mdOf_y hdr hap hx]
  cases hw : wantedP ops s x with
  | none => simp
  | some b =>
    cases b with
    | false =>
      simp only [Bool.false_eq_true, Option.some.injEq, false_and, or_false, true_and]
      constructor
      · intro h; exact ⟨_, rfl, ⟨_, _, rfl, rfl⟩, by rintro σ v ⟨rfl, rfl⟩; exact h⟩
      · rintro ⟨S, rfl, _, h⟩; exact h _ _ ⟨rfl, rfl⟩
    | true =>
      simp only [Bool.true_eq_false, Option.some.injEq, false_and, false_or, true_and]
      rcases heavy_ev (P := P) (md := md) hx s with ⟨n, cs, hv⟩ | ⟨b, sz, z, n, cs, hv⟩ | ⟨f, l, hv⟩ | hv
      · rw [hv]
        simp only [actS, HvA]
        constructor
        · intro h; exact ⟨_, rfl, ⟨_, _, rfl, rfl⟩, by rintro σ v ⟨rfl, rfl⟩; exact h⟩
        · rintro ⟨S, rfl, _, h⟩; exact h _ _ ⟨rfl, rfl⟩
      · rw [hv]
        cases b with
        | none =>
          simp only [actS, HvA, true_and]
          constructor
          · rintro ⟨h1, h2⟩
            by_cases hn : n = 0
            · exact ⟨_, .inl ⟨hn, rfl⟩, ⟨_, _, rfl, rfl⟩, by rintro σ v ⟨rfl, rfl⟩; exact h1 hn⟩
            · obtain ⟨g, hk⟩ := h2 hn
              exact ⟨_, .inr ⟨hn, g, rfl⟩, ⟨_, _, n, Nat.le_refl n, rfl, rfl⟩, by rintro σ v ⟨c, hc, rfl, rfl⟩; exact hk c hc⟩
          · rintro ⟨S, ⟨hn, rfl⟩ | ⟨hn, g, rfl⟩, _, h⟩
            · exact ⟨fun _ => h _ _ ⟨rfl, rfl⟩, fun q => absurd hn q⟩
            · exact ⟨fun q => absurd q hn, fun _ => ⟨g, fun c hc => h _ _ ⟨c, hc, rfl, rfl⟩⟩⟩
        | some b =>
          obtain ⟨id, off, len, cap⟩ := b
          simp only [actS, HvA, true_and]
          constructor
          · rintro ⟨ds, hd, h1, h2⟩
            by_cases hn : len + n ≤ cap
            · obtain ⟨g, hk⟩ := h1 hn
              exact ⟨_, ⟨ds, hd, .inl ⟨hn, g, rfl⟩⟩, ⟨_, _, rfl, rfl⟩, by rintro σ v ⟨rfl, rfl⟩; exact hk⟩
            · obtain ⟨g, g', hk⟩ := h2 (by omega)
              exact ⟨_, ⟨ds, hd, .inr ⟨by omega, g, g', rfl⟩⟩, ⟨_, _, len + n, Nat.le_refl _, rfl, rfl⟩, by rintro σ v ⟨c, hc, rfl, rfl⟩; exact hk c hc⟩
          · rintro ⟨S, ⟨ds, hd, ⟨hn, g, rfl⟩ | ⟨hn, g, g', rfl⟩⟩, _, h⟩
            · exact ⟨ds, hd, fun _ => ⟨g, h _ _ ⟨rfl, rfl⟩⟩, fun q => by omega⟩
            · exact ⟨ds, hd, fun q => by omega, fun _ => ⟨g, g', fun c hc => h _ _ ⟨c, hc, rfl, rfl⟩⟩⟩
      · rw [hv]
        simp only [actS, HvA]
        unfold callS
        cases hwf : wfOp md x.op with
        | true =>
          simp only [if_true, true_and, Bool.true_eq_false, false_and, or_false]
          constructor
          · rintro ⟨id, off, rest, cs, cs', r, h1, h2, h3, hk⟩
            exact ⟨_, ⟨id, off, rest, cs, cs', r, h1, h2, h3, rfl⟩, ⟨_, _, rfl, rfl⟩, by rintro σ v ⟨rfl, rfl⟩; exact hk⟩
          · rintro ⟨S, ⟨id, off, rest, cs, cs', r, h1, h2, h3, rfl⟩, _, h⟩
            exact ⟨id, off, rest, cs, cs', r, h1, h2, h3, h _ _ ⟨rfl, rfl⟩⟩
        | false =>
          simp only [Bool.false_eq_true, if_false, false_and, false_or, true_and, hap, Bool.true_eq_false]
          by_cases hi : l.all PE.im = true ∧ md.ow f = false
          · rw [if_pos hi]
            constructor
            · rintro ⟨r, h1, hk⟩
              exact ⟨_, .inl ⟨hi, r, h1, rfl⟩, ⟨_, _, rfl, rfl⟩, by rintro σ v ⟨rfl, rfl⟩; exact hk⟩
            · rintro ⟨S, ⟨_, r, h1, rfl⟩ | ⟨h0, _⟩, _, h⟩
              · exact ⟨r, h1, h _ _ ⟨rfl, rfl⟩⟩
              · exact absurd hi h0
          · rw [if_neg hi]
            constructor
            · rintro ⟨R, h1, h2, hk⟩
              obtain ⟨r, σ', hr⟩ := h2
              exact ⟨_, .inr ⟨hi, R, h1, ⟨r, σ', hr⟩, rfl⟩, ⟨σ', r, hr⟩, fun σ v hR => hk v σ hR⟩
            · rintro ⟨S, ⟨h0, _⟩ | ⟨_, R, h1, h2, rfl⟩, _, h⟩
              · exact absurd h0 hi
              · exact ⟨R, h1, h2, fun r σ' hR => h σ' r hR⟩
      · rw [hv]
        simp [actS, HvA]
theorem HvS.congr {nid : Nat} {x : Oper} {s s' : St} {S : List Box → PV → Prop} (h : HvS P md ops nid x s S) (hs : ∀ t ∈ looks ops x, s'.slots[t]? = s.slots[t]?) (hst : s'.st = s.st) : HvS P md ops nid x s' S := by
  unfold HvS at h ⊢
  rw [wantedP_congr hs, hst]
  rcases h with h | ⟨h1, h2⟩
  · exact .inl h
  · refine .inr ⟨h1, ?_⟩
    rw [evA_mono md (fun t ht => hs t (operands_looks ht)) (fun id b hb _ => by rw [hst]; exact hb) (by intro hb; rw [hb] at h2; exact h2)]
    cases hx : evA P md.mb s x.op with
    | mk n cs => rw [hx] at h2; simp only [HvA, hst] at h2 ⊢; exact h2
    | app b sz z n cs =>
      rw [hx] at h2
      cases b with
      | none => simp only [HvA, hst] at h2 ⊢; exact h2
      | some b => obtain ⟨id, off, len, cap⟩ := b; simp only [HvA, hst] at h2 ⊢; exact h2
    | call f l => rw [hx] at h2; simp only [HvA, hst] at h2 ⊢; exact h2
    | _ => rw [hx] at h2; exact h2.elim
theorem put_eff (s : St) (d : Option Tmp) (v : PV) : s.put d v = s.eff d none v := rfl
theorem put_slots {s : St} {d : Option Tmp} {v : PV} {t : Tmp} (h : d ≠ some t) : (s.put d v).slots[t]? = s.slots[t]? := eff_slots (m := none) h
theorem heavy_light (hdr : md.dr = true) (hmap : md.ap = true) {nx ny : Nat} {x y : Oper} (hx : heavy md x.op = true) (hy : light md y.op = true) (hap : apart ops x y = true) {K : St → Prop} {s : St} :
    step1 P md ops nx x (step1 P md ops ny y K) s ↔ step1 P md ops ny y (step1 P md ops nx x K) s := by
  have h1 : ∀ t ∈ looks ops y, x.dst ≠ some t := fun t ht hd => by
    simp only [apart, hd, Bool.and_eq_true, Bool.not_eq_true', List.contains_eq_mem, decide_eq_false_iff_not] at hap
    exact hap.1.1 ht
  have h2 : ∀ t, x.dst = some t → y.dst ≠ some t := fun t hd hd' => by
    simp [apart, hd, hd'] at hap
  have h3 : ∀ t ∈ looks ops x, y.dst ≠ some t := fun t ht hd => by
    simp only [apart, hd, Bool.and_eq_true, Bool.not_eq_true', List.contains_eq_mem, decide_eq_false_iff_not] at hap
    exact hap.2 ht
  have comm : ∀ σ v vy, { s.put y.dst vy with st := σ }.put x.dst v = ({ s with st := σ }.put x.dst v).put y.dst vy := fun σ v vy => by
    have e : { s.put y.dst vy with st := σ } = { s with st := σ }.put y.dst vy := by cases y.dst <;> rfl
    rw [e, put_eff, put_eff, put_eff, put_eff]
    exact (eff_comm (m := none) (m' := none) h2 (fun _ _ _ _ h => nomatch h)).symm
  have hl : ∀ σ v, lv P md ops y ({ s with st := σ }.put x.dst v) = lv P md ops y s := fun σ v => lv_congr hy fun t ht => (put_slots (h1 t ht)).trans rfl
  have hc : ∀ vy S, HvS P md ops nx x s S ↔ HvS P md ops nx x (s.put y.dst vy) S := fun vy S => by
    have hsl : ∀ t ∈ looks ops x, (s.put y.dst vy).slots[t]? = s.slots[t]? := fun t ht => put_slots (h3 t ht)
    exact ⟨fun h => h.congr hsl (St.put_st ..), fun h => h.congr (fun t ht => (hsl t ht).symm) (St.put_st ..).symm⟩
  rw [heavy_form hdr hmap hx, light_step hy]
  constructor
  · rintro ⟨S, hS, ⟨m0, v0, h0⟩, hK⟩
    have hk0 := hK m0 v0 h0
    rw [light_step hy] at hk0
    obtain ⟨vy, hvy, _⟩ := hk0
    rw [hl] at hvy
    refine ⟨vy, hvy, (heavy_form hdr hmap hx).2 ⟨S, (hc vy S).1 hS, ⟨m0, v0, h0⟩, fun m v hm => ?_⟩⟩
    have hk := hK m v hm
    rw [light_step hy] at hk
    obtain ⟨vy', hvy', hk⟩ := hk
    rw [hl, hvy, Option.some.injEq] at hvy'
    subst hvy'
    rw [comm]; exact hk
  · rintro ⟨vy, hvy, h⟩
    rw [heavy_form hdr hmap hx] at h
    obtain ⟨S, hS, hne, hK⟩ := h
    refine ⟨S, (hc vy S).2 hS, hne, fun m v hm => (light_step hy).2 ⟨vy, by rw [hl]; exact hvy, ?_⟩⟩
    rw [← comm]; exact hK m v hm

end
end Go.PL

namespace Go.PL
open Go.RowKit

def maskOf (M : List Nat) (o : Oper) : Nat := o.after.toList.foldl (fun s e => if Region.binds .any e then s ||| 2 ^ e.on ||| M.getD e.on 0 else s) 0
def masks : List Oper → List Nat → List Nat
  | [], M => M
  | o :: l, M => masks l (M ++ [maskOf M o])

theorem maskOf_bit {M : List Nat} {o : Oper} {i : Nat} (h : (maskOf M o).testBit i = true) : ∃ e ∈ o.after, Region.binds .any e = true ∧ (e.on = i ∨ (M.getD e.on 0).testBit i = true) := by
  have key : ∀ (l : List Edge) (s : Nat), (l.foldl (fun s e => if Region.binds .any e then s ||| 2 ^ e.on ||| M.getD e.on 0 else s) s).testBit i = true → s.testBit i = true ∨ ∃ e ∈ l, Region.binds .any e = true ∧ (e.on = i ∨ (M.getD e.on 0).testBit i = true) := by
    intro l
    induction l with
    | nil => intro s h; exact .inl h
    | cons e l ih =>
      intro s h
      simp only [List.foldl_cons] at h
      rcases ih _ h with q | ⟨e', h1, h2⟩
      · by_cases hb : Region.binds .any e = true
        · rw [if_pos hb] at q
          simp only [Nat.testBit_or, Bool.or_eq_true, Nat.testBit_two_pow, decide_eq_true_eq] at q
          rcases q with (q | q) | q
          · exact .inl q
          · exact .inr ⟨e, by simp, hb, .inl q⟩
          · exact .inr ⟨e, by simp, hb, .inr q⟩
        · rw [if_neg hb] at q; exact .inl q
      · exact .inr ⟨e', by simp [h1], h2⟩
  rcases key _ _ h with q | ⟨e, h1, h2⟩
  · simp at q
  · exact ⟨e, Array.mem_toList_iff.1 h1, h2⟩

theorem masks_spec : ∀ (l : List Oper) (M : List Nat), (masks l M).length = M.length + l.length ∧ (∀ j, j < M.length → (masks l M).getD j 0 = M.getD j 0) ∧
    ∀ j o, l[j]? = some o → ∃ M', (masks l M).getD (M.length + j) 0 = maskOf M' o ∧ ∀ k, M'.getD k 0 = if k < M.length + j then (masks l M).getD k 0 else 0
  | [], M => by simp [masks]
  | o :: l, M => by
    obtain ⟨h1, h2, h3⟩ := masks_spec l (M ++ [maskOf M o])
    simp only [List.length_append, List.length_cons, List.length_nil] at h1 h2 h3
    simp only [masks, List.length_cons]
    refine ⟨by omega, fun j hj => ?_, fun j o' hj => ?_⟩
    · rw [h2 j (by omega)]
      simp [List.getD_eq_getElem?_getD, List.getElem?_append_left hj]
    · cases j with
      | zero =>
        simp at hj
        subst hj
        refine ⟨M, ?_, fun k => ?_⟩
        · rw [Nat.add_zero, h2 M.length (by omega)]
          simp [List.getD_eq_getElem?_getD]
        · rw [Nat.add_zero]
          split
          · rename_i hk
            rw [h2 k (by omega)]
            simp [List.getD_eq_getElem?_getD, List.getElem?_append_left hk]
          · rename_i hk
            simp [List.getD_eq_getElem?_getD, List.getElem?_eq_none (show M.length ≤ k by omega)]
      | succ j =>
        obtain ⟨M', g1, g2⟩ := h3 j o' (by simpa using hj)
        refine ⟨M', ?_, fun k => ?_⟩
        · rw [← g1]; congr 1; omega
        · rw [g2 k]
          have : M.length + 1 + j = M.length + (j + 1) := by omega
          rw [this]

def homesOk2 (hs : List (Tmp × Nat)) (p : Tmp × Tmp) : Bool := match hs.lookup p.1, hs.lookup p.2 with
  | some a, some b => a != b
  | _, _ => false
def homeOp (hs : List (Tmp × Nat)) (nid : Nat) (o : Oper) : Bool := match o.dst with
  | none => true
  | some t => match hs.lookup t with
    | none => true
    | some b => match o.op with
      | .move (.tmp u) | .assign (.tmp u) | .nilCheck (.tmp u) | .fieldAddr _ (.tmp u) _ => hs.lookup u == some b
      | .alloc _ => nid == b
      | _ => false
def homesOk (hs : List (Tmp × Nat)) (ops : List Oper) (nb : Nat) : Bool := (List.range ops.length).all fun i => match ops[i]? with
  | some o => homeOp hs (nid ops nb i) o
  | none => true
def HomeAt (s : St) (p : Tmp × Nat) : Prop := ∀ id off, s.slots[p.1]? = some (.e (.c (.ptr id off))) → id = p.2
def Home (hs : List (Tmp × Nat)) (s : St) : Prop := ∀ t b, hs.lookup t = some b → HomeAt s (t, b)

def pairOk (md : Md) (ops : List Oper) (als : List (Tmp × Tmp)) (hs : List (Tmp × Nat)) (x y : Oper) : Bool :=
  apart ops x y && (if md.ap && (heavy md x.op || heavy md y.op) then (heavy md x.op && light md y.op) || (light md x.op && heavy md y.op) else memOk (cl md x.op) (cl md y.op) || match aliasOf x.op y.op with | some p => als.contains p || homesOk2 hs p | none => false)

def rowOk (md : Md) (ops : List Oper) (als : List (Tmp × Tmp)) (hs : List (Tmp × Nat)) (m : Nat) (y : Oper) : List Oper → Nat → Bool
  | [], _ => true
  | x :: l, i => (m.testBit i || pairOk md ops als hs x y) && rowOk md ops als hs m y l (i + 1)

def allOk (md : Md) (ops : List Oper) (als : List (Tmp × Tmp)) (hs : List (Tmp × Nat)) (M : List Nat) : List Oper → Nat → Bool
  | [], _ => true
  | y :: l, j => y.after.all (fun e => !Region.binds .any e || decide (e.on < j)) && rowOk md ops als hs (M.getD j 0) y (ops.take j) 0 && allOk md ops als hs M l (j + 1)

def regOk (md : Md) (ops : List Oper) (als : List (Tmp × Tmp)) (hs : List (Tmp × Nat) := []) : Bool :=
  allOk md ops als hs (masks ops []) ops 0 && als.all fun p => ops.all fun o => o.dst != some p.1 && o.dst != some p.2

theorem rowOk_spec {md : Md} {ops : List Oper} {als : List (Tmp × Tmp)} {hs : List (Tmp × Nat)} {m : Nat} {y : Oper} : ∀ {l : List Oper} {i : Nat}, rowOk md ops als hs m y l i = true → ∀ k x, l[k]? = some x → m.testBit (i + k) = true ∨ pairOk md ops als hs x y = true
  | [], _, _, k, x, hx => by simp at hx
  | z :: l, i, h, k, x, hx => by
    simp only [rowOk, Bool.and_eq_true, Bool.or_eq_true] at h
    cases k with
    | zero => simp at hx; subst hx; exact h.1
    | succ k =>
      have := rowOk_spec h.2 k x (by simpa using hx)
      rw [show i + 1 + k = i + (k + 1) by omega] at this
      exact this

theorem allOk_spec {md : Md} {ops : List Oper} {als : List (Tmp × Tmp)} {hs : List (Tmp × Nat)} {M : List Nat} : ∀ {l : List Oper} {j : Nat}, allOk md ops als hs M l j = true → ∀ k y, l[k]? = some y →
    (∀ e ∈ y.after, Region.binds .any e = true → e.on < j + k) ∧ ∀ i x, i < j + k → ops[i]? = some x → (M.getD (j + k) 0).testBit i = true ∨ pairOk md ops als hs x y = true
  | [], _, _, k, y, hy => by simp at hy
  | z :: l, j, h, k, y, hy => by
    simp only [allOk, Bool.and_eq_true] at h
    cases k with
    | zero =>
      simp at hy
      subst hy
      refine ⟨fun e he hb => ?_, fun i x hi hx => ?_⟩
      · have := Array.all_eq_true'.1 h.1.1 e he
        simp [hb] at this
        omega
      · have := rowOk_spec h.1.2 i x (by rw [List.getElem?_take]; rw [if_pos (by omega)]; exact hx)
        simpa using this
    | succ k =>
      have := allOk_spec h.2 k y (by simpa using hy)
      rw [show j + 1 + k = j + (k + 1) by omega] at this
      exact this

section
variable {P : Program} {md : Md} {E : Env} {Q : Exit → Act → World → Prop}

def Closed (ops : List Oper) (listed : Nat → Bool) : Prop := ∀ k o, ops[k]? = some o → listed k = true → ∀ e ∈ o.after, Region.binds .any e = true → listed e.on = true

theorem mask_listed {ops : List Oper} {listed : Nat → Bool} (hc : Closed ops listed) : ∀ (j : Nat) (o : Oper), ops[j]? = some o →
    (∀ e ∈ o.after, Region.binds .any e = true → listed e.on = true) → ∀ i, ((masks ops []).getD j 0).testBit i = true → listed i = true := by
  intro j
  induction j using Nat.strongRecOn with
  | _ j ih =>
    intro o ho hl i hi
    obtain ⟨_, _, h3⟩ := masks_spec ops []
    obtain ⟨M', g1, g2⟩ := h3 j o ho
    simp only [List.length_nil, Nat.zero_add] at g1 g2
    rw [g1] at hi
    obtain ⟨e, he, hb, q⟩ := maskOf_bit hi
    have hel := hl e he hb
    rcases q with rfl | q
    · exact hel
    · rw [g2 e.on] at q
      split at q
      · rename_i hlt
        have hlen : e.on < ops.length := by
          have : j < ops.length := by
            rcases Nat.lt_or_ge j ops.length with q | q
            · exact q
            · rw [List.getElem?_eq_none q] at ho; simp at ho
          omega
        exact ih e.on hlt _ (List.getElem?_eq_getElem hlen) (hc e.on _ (List.getElem?_eq_getElem hlen) hel) i q
      · simp at q

def Same (als : List (Tmp × Tmp)) (s0 s : St) : Prop := ∀ p ∈ als, s.slots[p.1]? = s0.slots[p.1]? ∧ s.slots[p.2]? = s0.slots[p.2]?

theorem Same.differ {als : List (Tmp × Tmp)} {s0 s : St} (h : Same als s0 s) (hd : ∀ p ∈ als, Differ s0 p) : ∀ p ∈ als, Differ s p := by
  intro p hp
  obtain ⟨id, off, id', off', h1, h2, h3⟩ := hd p hp
  exact ⟨id, off, id', off', by rw [(h p hp).1]; exact h1, by rw [(h p hp).2]; exact h2, h3⟩

theorem Same.eff {ops : List Oper} {als : List (Tmp × Tmp)} {s0 s : St} (h : Same als s0 s) (hw : (als.all fun p => ops.all fun o => o.dst != some p.1 && o.dst != some p.2) = true) {o : Oper} (ho : o ∈ ops) {m : Option (Nat × List PC)} {v : PV} : Same als s0 (s.eff o.dst m v) := by
  intro p hp
  have := List.all_eq_true.1 (List.all_eq_true.1 hw p hp) o ho
  simp only [Bool.and_eq_true, bne_iff_ne] at this
  exact ⟨(eff_slots this.1).trans (h p hp).1, (eff_slots this.2).trans (h p hp).2⟩

theorem homesOk_spec {hs : List (Tmp × Nat)} {ops : List Oper} {nb i : Nat} (h : homesOk hs ops nb = true) {o : Oper} (ho : ops[i]? = some o) : homeOp hs (nid ops nb i) o = true := by
  have hi : i < ops.length := by
    rcases Nat.lt_or_ge i ops.length with q | q
    · exact q
    · rw [List.getElem?_eq_none q] at ho; cases ho
  have := List.all_eq_true.1 h i (by simpa using hi)
  simpa only [ho] using this
theorem Home.differ {hs : List (Tmp × Nat)} {s : St} (h : Home hs s) {p : Tmp × Tmp} (hp : homesOk2 hs p = true) : DifferW s p := by
  intro id off id' off' h1 h2
  unfold homesOk2 at hp
  split at hp
  · rename_i a b ha hb
    have e1 := h _ _ ha _ _ h1
    have e2 := h _ _ hb _ _ h2
    simp only at e1 e2
    rw [e1, e2]; simpa using hp
  · cases hp
theorem Home.of_all {hs : List (Tmp × Nat)} {s : St} (h : ∀ p ∈ hs, HomeAt s p) : Home hs s := fun t b hl => h (t, b) (by
  induction hs with
  | nil => cases hl
  | cons x l ih =>
    obtain ⟨t', b'⟩ := x
    rw [List.lookup_cons] at hl
    split at hl
    · rename_i he
      simp only [beq_iff_eq] at he
      simp only [Option.some.injEq] at hl
      subst he; subst hl; simp
    · exact List.mem_cons_of_mem _ (ih (fun p hp => h p (List.mem_cons_of_mem _ hp)) hl))
theorem Home.eff {hs : List (Tmp × Nat)} {s : St} (h : Home hs s) {ops : List Oper} {nid : Nat} {o : Oper} (ho : homeOp hs nid o = true) {m : Option (Nat × List PC)} {v : PV} (he : Eff P md ops nid o s m v) : Home hs (s.eff o.dst m v) := by
  intro t b hl id off hsl
  by_cases hd : o.dst = some t
  · have hv : v = .e (.c (.ptr id off)) := by
      have hsl' : (s.put (some t) v).slots[t]? = some (.e (.c (.ptr id off))) := by
        rw [hd] at hsl
        cases m with
        | none => exact hsl
        | some x => exact hsl
      simp only [St.put] at hsl'
      rcases Nat.lt_or_ge t s.slots.length with c | c
      · rw [List.getElem?_set_self c] at hsl'; exact Option.some.inj hsl'
      · rw [List.getElem?_eq_none (by simpa using c)] at hsl'; cases hsl'
    unfold homeOp at ho
    rw [hd] at ho
    simp only [hl] at ho
    rcases he with ⟨_, _, he⟩ | ⟨_, he⟩
    · rw [hv] at he; cases he
    · obtain ⟨dst, op, ty, pos, after, guard⟩ := o
      simp only at ho he
      split at ho
      · rename_i u _
        simp only [evA, St.pv] at he
        cases hu : s.slots[u]? with
        | none => rw [hu] at he; exact he.elim
        | some x =>
          rw [hu] at he
          obtain ⟨_, rfl⟩ := he
          exact h u b (by simpa using ho) id off (by rw [hu, hv])
      · rename_i u _
        simp only [evA, St.pv] at he
        cases hu : s.slots[u]? with
        | none => rw [hu] at he; exact he.elim
        | some x =>
          rw [hu] at he
          obtain ⟨_, rfl⟩ := he
          exact h u b (by simpa using ho) id off (by rw [hu, hv])
      · rename_i u _
        simp only [evA] at he
        split at he
        · rename_i id2 off2 hx
          obtain ⟨_, hve⟩ := he
          rw [hv] at hve
          simp only [PV.e.injEq, PE.c.injEq, PC.ptr.injEq] at hve
          simp only [St.pe] at hx
          split at hx
          · rename_i y hy
            simp only [Option.some.injEq] at hx
            exact h u b (by simpa using ho) id off2 (by rw [hy, hx, hve.1])
          · cases hx
        · obtain ⟨_, hve⟩ := he
          rw [hv] at hve
          simp at hve
        · exact he.elim
      · rename_i u _ _
        simp only [evA] at he
        split at he
        · rename_i i hi
          simp only [St.pe] at he
          split at he
          · rename_i y hy
            cases y with
            | a cs => simp [fieldA, A1.ofPC, EffA] at he
            | c p =>
              cases p with
              | ptr id2 off2 =>
                simp only [fieldA] at he
                repeat' (split at he)
                all_goals simp only [A1.ofPC, EffA] at he
                all_goals rw [hv] at he
                all_goals simp only [PV.e.injEq, PE.c.injEq, PC.ptr.injEq] at he
                all_goals exact h u b (by simpa using ho) id off2 (by rw [hy, he.2.1])
              | iptr cs =>
                simp only [fieldA] at he
                repeat' (split at he)
                all_goals simp only [A1.ofPC, EffA] at he
                all_goals rw [hv] at he
                all_goals simp at he
              | _ => simp [fieldA, A1.ofPC, EffA] at he
          · simp [fieldA, A1.ofPC, EffA] at he
        · exact he.elim
      · simp only [evA] at he
        repeat' (split at he)
        · obtain ⟨_, _, hve⟩ := he
          rw [hv] at hve
          simp only [PV.e.injEq, PE.c.injEq, PC.ptr.injEq] at hve
          simp only [beq_iff_eq] at ho
          exact hve.1.trans ho
        · exact he.elim
        · exact he.elim
      · cases ho
  · exact h t b hl id off ((eff_slots hd).symm.trans hsl)

theorem Home.heavy {hs : List (Tmp × Nat)} {s : St} (h : Home hs s) {nid : Nat} {o : Oper} (ho : homeOp hs nid o = true) (ha : PL.heavy md o.op = true) {σ : List Box} {v : PV} : Home hs ({ s with st := σ }.put o.dst v) := by
  intro t b hl id off hsl
  by_cases hd : o.dst = some t
  · exfalso
    unfold homeOp at ho
    rw [hd] at ho
    simp only [hl] at ho
    unfold PL.heavy at ha
    split at ha
    · rename_i heq; rw [heq] at ho; cases ho
    · rename_i heq; rw [heq] at ho; cases ho
    · rename_i heq; rw [heq] at ho; cases ho
    · cases ha
  · exact h t b hl id off ((put_slots (s := { s with st := σ }) hd).symm.trans hsl)
theorem Same.heavy {ops : List Oper} {als : List (Tmp × Tmp)} {s0 s : St} (h : Same als s0 s) (hw : (als.all fun p => ops.all fun o => o.dst != some p.1 && o.dst != some p.2) = true) {o : Oper} (ho : o ∈ ops) {σ : List Box} {v : PV} : Same als s0 ({ s with st := σ }.put o.dst v) := by
  have h' : Same als s0 (s.put o.dst v) := h.eff hw ho (m := none) (v := v)
  intro p hp
  have e : ({ s with st := σ }.put o.dst v).slots = (s.put o.dst v).slots := by cases o.dst <;> rfl
  rw [e]; exact h' p hp

theorem step1_keep (hdr : md.dr = true) {ops : List Oper} {als : List (Tmp × Tmp)} {s0 s : St} (hw : (als.all fun p => ops.all fun o => o.dst != some p.1 && o.dst != some p.2) = true) {hs : List (Tmp × Nat)} {nid : Nat} {o : Oper} (ho : o ∈ ops) (hho : homeOp hs nid o = true)
    (hsm : Same als s0 s) (hh : Home hs s) {K K' : St → Prop} (hK : ∀ s', K s' → Same als s0 s' → Home hs s' → K' s') (h : step1 P md ops nid o K s) : step1 P md ops nid o K' s := by
  by_cases hna : md.ap = false ∨ heavy md o.op = false
  · rw [step1_eff hdr hna] at h ⊢
    obtain ⟨m, v, he, hk⟩ := h
    exact ⟨m, v, he, hK _ hk (hsm.eff hw ho) (hh.eff hho he)⟩
  · have ha : heavy md o.op = true := by cases q : heavy md o.op <;> simp [q] at hna ⊢
    have hap : md.ap = true := by cases q : md.ap <;> simp [q] at hna ⊢
    rw [heavy_form hdr hap ha] at h ⊢
    obtain ⟨S, hS, hne, hk⟩ := h
    exact ⟨S, hS, hne, fun m v hm => hK _ (hk m v hm) (hsm.heavy hw ho) (hh.heavy hho ha)⟩

theorem runL_front (hdr : md.dr = true) {ops : List Oper} {als : List (Tmp × Tmp)} {s0 : St} (hw : (als.all fun p => ops.all fun o => o.dst != some p.1 && o.dst != some p.2) = true) (hd : ∀ p ∈ als, Differ s0 p) {hs : List (Tmp × Nat)} {nb j : Nat} (hho : homesOk hs ops nb = true) {oj : Oper} (hj : ops[j]? = some oj) {suf : List Nat} {K : St → Prop} :
    ∀ (pre : List Nat), (∀ i ∈ pre, ∃ oi, ops[i]? = some oi ∧ pairOk md ops als hs oi oj = true) → ∀ s, Same als s0 s → Home hs s → runL P md ops nb (pre ++ j :: suf) K s → runL P md ops nb (j :: (pre ++ suf)) K s
  | [], _, s, _, _, h => h
  | i :: pre, hp, s, hs', hh, h => by
    obtain ⟨oi, hoi, hok⟩ := hp i (by simp)
    simp only [List.cons_append, runL, hoi] at h
    have h2 := step1_keep (P := P) (K' := runL P md ops nb (j :: (pre ++ suf)) K) hdr hw (List.mem_of_getElem? hoi) (homesOk_spec hho hoi) hs' hh (fun s' a b c => runL_front hdr hw hd hho hj pre (fun k hk => hp k (by simp [hk])) s' b c a) h
    simp only [pairOk, Bool.and_eq_true] at hok
    simp only [runL, hj, List.cons_append, hoi] at h2 ⊢
    by_cases hap : md.ap = true ∧ (heavy md oi.op || heavy md oj.op) = true
    · rw [if_pos hap] at hok
      simp only [Bool.or_eq_true, Bool.and_eq_true] at hok
      rcases hok.2 with ⟨q1, q2⟩ | ⟨q1, q2⟩
      · exact (heavy_light hdr hap.1 q1 q2 hok.1).1 h2
      · refine (heavy_light hdr hap.1 q2 q1 ?_).2 h2
        have := hok.1
        simp only [PL.apart, Bool.and_eq_true] at this ⊢
        obtain ⟨g1, g2⟩ := this
        constructor
        · cases hjd : oj.dst with
          | none => rfl
          | some d =>
            rw [hjd] at g1 g2
            simp only [Bool.and_eq_true] at g2 ⊢
            refine ⟨g2, ?_⟩
            cases hid : oi.dst with
            | none => simp
            | some d' =>
              rw [hid] at g1
              simp only [Bool.and_eq_true, bne_iff_ne, ne_eq, Option.some.injEq] at g1 ⊢
              exact fun q => g1.2 q.symm
        · cases hid : oi.dst with
          | none => rfl
          | some d =>
            rw [hid] at g1
            simp only [Bool.and_eq_true] at g1
            exact g1.1
    · rw [if_neg hap] at hok
      have hni : md.ap = false ∨ heavy md oi.op = false := by
        cases q : md.ap <;> cases q2 : heavy md oi.op <;> simp [q, q2] at hap ⊢
      have hnj : md.ap = false ∨ heavy md oj.op = false := by
        cases q : md.ap <;> cases q2 : heavy md oj.op <;> simp [q, q2] at hap ⊢
      rw [step1_eff hdr hni] at h2
      obtain ⟨mi, vi, hei, ih⟩ := h2
      rw [step1_eff hdr hnj] at ih
      obtain ⟨mj, vj, hej, hk2⟩ := ih
      simp only [Bool.or_eq_true] at hok
      have hmem : memOk (cl md oi.op) (cl md oj.op) = true ∨ ∃ p, aliasOf oi.op oj.op = some p ∧ DifferW s p := by
        rcases hok.2 with q | q
        · exact .inl q
        · split at q
          · rename_i p hpp
            simp only [Bool.or_eq_true] at q
            rcases q with q | q
            · exact .inr ⟨p, hpp, (hs'.differ hd p (by simpa using q)).weak⟩
            · exact .inr ⟨p, hpp, hh.differ q⟩
          · simp at q
      obtain ⟨g1, g2, g3⟩ := hei.swap hok.1 hmem hej
      rw [step1_eff hdr hnj]
      refine ⟨mj, vj, g1, ?_⟩
      rw [step1_eff hdr hni]
      refine ⟨mi, vi, g2, ?_⟩
      rw [g3]
      exact hk2

theorem RelS.drew {G : GMem} {bl : Nat → Nat} {w : World} {σ : List Box} (h : RelS G bl w σ) {w' : World} (hw : w'.heap = w.heap) : RelS G bl w' σ :=
  ⟨fun b o u hg => by rw [cell?_congr (w := w) (by rw [hw])]; exact h.agree b o u hg, fun id cs hid => by rw [hw]; exact h.live id cs hid, h.frz, h.inj⟩

theorem Rel.drew {a : Act} {w : World} {s : St} {G : GMem} {bl : Nat → Nat} (h : Rel E a w s G bl) {w' : World} (hw : w'.heap = w.heap) (ho : w'.os = w.os) (ht : w'.tape = w.tape) (hu : w'.output = w.output) : Rel E a w' s G bl :=
  ⟨⟨h.rel.slots, h.rel.defers, h.rel.st.drew hw⟩, ⟨ho.trans h.ext.os, ht.trans h.ext.tape, hu.trans h.ext.output, by rw [hw]; exact h.ext.size, fun k hk hm => by rw [hw]; exact h.ext.block k hk hm, h.ext.gle, h.ext.gnew, h.ext.same, h.ext.fresh, h.ext.len⟩⟩

theorem sorted_split {rem : List Nat} (hs : rem.Pairwise (· < ·)) {j : Nat} (hj : j ∈ rem) : ∃ pre suf, rem = pre ++ j :: suf ∧ (∀ i ∈ pre, i < j) ∧ (pre ++ suf).Pairwise (· < ·) ∧ ∀ i, i ∈ pre ++ suf ↔ i ∈ rem ∧ i ≠ j := by
  obtain ⟨pre, suf, rfl⟩ := List.append_of_mem hj
  rw [List.pairwise_append] at hs
  obtain ⟨h1, h2, h3⟩ := hs
  rw [List.pairwise_cons] at h2
  refine ⟨pre, suf, rfl, fun i hi => h3 i hi j (by simp), ?_, fun i => ?_⟩
  · rw [List.pairwise_append]
    exact ⟨h1, h2.2, fun x hx y hy => h3 x hx y (by simp [hy])⟩
  · constructor
    · intro hi
      rcases List.mem_append.1 hi with q | q
      · exact ⟨by simp [q], by have := h3 i q j (by simp); omega⟩
      · exact ⟨by simp [q], by have := h2.1 i q; omega⟩
    · rintro ⟨hi, hne⟩
      simp only [List.mem_append, List.mem_cons] at hi ⊢
      rcases hi with q | q | q
      · exact .inl q
      · exact absurd q hne
      · exact .inr q

theorem wpAny_run (hdr : md.dr = true) (hz : md.fz = true → E.n0 = 0) {ops : Array Oper} {als : List (Tmp × Tmp)} {s0 : St} {hs : List (Tmp × Nat)} (hok : regOk md ops.toList als hs = true) (hd : ∀ p ∈ als, Differ s0 p) {nb : Nat} (hho : homesOk hs ops.toList nb = true) (hn : E.n0 ≤ nb) {K : St → Prop} (hQ : ∀ a w, Post E K a w → Q .normal a w) :
    ∀ (fuel : Nat) (listed : Array Bool) (rem : List Nat) (a : Act) (w : World) (s : St) (G : GMem) (bl : Nat → Nat), rem.length ≤ fuel → listed.size = ops.size → rem.Pairwise (· < ·) → (∀ i, i ∈ rem ↔ i < ops.size ∧ listed.getD i true = false) →
      Closed ops.toList (fun i => listed.getD i false) → Same als s0 s → Home hs s → Rel E a w s G bl → runL P md ops.toList nb rem K s → wpAny P .any ops Q fuel listed a w := by
  have hok' := hok
  simp only [regOk, Bool.and_eq_true] at hok'
  obtain ⟨hall, hw⟩ := hok'
  intro fuel
  induction fuel with
  | zero =>
    intro listed rem a w s G bl hlen hsz hsort hmem hcl hsm hh rel hrun
    have hrem : rem = [] := List.eq_nil_of_length_eq_zero (by omega)
    subst hrem
    refine ⟨?_, hQ a w ⟨s, G, bl, hrun, rel⟩⟩
    unfold Region.ready
    rw [List.filter_eq_nil_iff]
    intro i hi hr
    simp only [Bool.and_eq_true, Bool.not_eq_true'] at hr
    have := (hmem i).2 ⟨by simpa using hi, hr.1⟩
    simp at this
  | succ fuel ih =>
    intro listed rem a w s G bl hlen hsz hsort hmem hcl hsm hh rel hrun
    have ready_iff : ∀ i, i ∈ Region.ready .any ops listed ↔ i < ops.size ∧ listed.getD i true = false ∧ ∃ o, ops[i]? = some o ∧ ∀ e ∈ o.after, Region.binds .any e = true → listed.getD e.on false = true := by
      intro i
      unfold Region.ready
      simp only [List.mem_filter, List.mem_range, Bool.and_eq_true, Bool.not_eq_true']
      constructor
      · rintro ⟨h1, h2, h3⟩
        refine ⟨h1, h2, ops[i], Array.getElem?_eq_getElem h1, fun e he hb => ?_⟩
        rw [Array.getElem?_eq_getElem h1] at h3
        simp only [Option.map_some, Option.getD_some] at h3
        have := Array.all_eq_true'.1 h3 e he
        simpa [hb] using this
      · rintro ⟨h1, h2, o, ho, h3⟩
        refine ⟨h1, h2, ?_⟩
        rw [ho]
        simp only [Option.map_some, Option.getD_some]
        refine Array.all_eq_true'.2 fun e he => ?_
        by_cases hb : Region.binds .any e = true
        · simp [hb, h3 e he hb]
        · simp [hb]
    refine ⟨fun hnil => ?_, fun j hj => ?_⟩
    · cases rem with
      | nil => exact hQ a w ⟨s, G, bl, hrun, rel⟩
      | cons i rem =>
        exfalso
        obtain ⟨hi, hli⟩ := (hmem i).1 (by simp)
        have : i ∈ Region.ready .any ops listed := by
          refine (ready_iff i).2 ⟨hi, hli, ops[i], Array.getElem?_eq_getElem hi, fun e he hb => ?_⟩
          have hlt := (allOk_spec hall i ops[i] (by rw [Array.getElem?_toList]; exact Array.getElem?_eq_getElem hi)).1 e he hb
          simp only [Nat.zero_add] at hlt
          cases hle : listed.getD e.on false with
          | true => rfl
          | false =>
            exfalso
            have hltsz : e.on < listed.size := by omega
            have hle' : listed.getD e.on true = false := by
              rw [Array.getD_eq_getD_getElem?, Array.getElem?_eq_getElem hltsz] at hle ⊢
              simpa using hle
            have hin := (hmem e.on).2 ⟨by omega, hle'⟩
            rcases List.mem_cons.1 hin with q | q
            · omega
            · have := (List.pairwise_cons.1 hsort).1 e.on q
              omega
        rw [hnil] at this
        simp at this
    · obtain ⟨hjlt, hjl, oj, hoj, hedges⟩ := (ready_iff j).1 hj
      have hojl : ops.toList[j]? = some oj := by rw [Array.getElem?_toList]; exact hoj
      obtain ⟨pre, suf, rfl, hpre, hsort', hmem'⟩ := sorted_split hsort ((hmem j).2 ⟨hjlt, hjl⟩)
      have hfront : runL P md ops.toList nb (j :: (pre ++ suf)) K s := by
        refine runL_front hdr hw hd hho hojl pre (fun i hi => ?_) s hsm hh hrun
        obtain ⟨hilt, hil⟩ := (hmem i).1 (by simp [hi])
        refine ⟨ops[i], by rw [Array.getElem?_toList]; exact Array.getElem?_eq_getElem hilt, ?_⟩
        rcases (allOk_spec hall j oj hojl).2 i ops[i] (by simpa using hpre i hi) (by rw [Array.getElem?_toList]; exact Array.getElem?_eq_getElem hilt) with q | q
        · exfalso
          have := mask_listed hcl j oj hojl hedges i (by simpa using q)
          rw [Array.getD_eq_getD_getElem?, Array.getElem?_eq_getElem (by omega)] at this hil
          simp at this hil
          rw [hil] at this
          simp at this
        · exact q
      unfold runL at hfront
      rw [hojl] at hfront
      simp only at hfront
      have hstep := step1_keep (P := P) (K' := fun s' => runL P md ops.toList nb (pre ++ suf) K s' ∧ Same als s0 s' ∧ Home hs s') hdr hw (List.mem_of_getElem? hojl) (homesOk_spec hho hojl) hsm hh (fun s' a b c => ⟨a, b, c⟩) hfront
      refine wpOp_mono ?_ (step1_sound rel hz hoj (Nat.le_trans hn (Nat.le_add_right _ _)) hstep Q)
      rintro a' w' ⟨s', G', bl', ⟨hk, hsm', hh'⟩, rel'⟩
      refine ih _ (pre ++ suf) a' w' _ G' bl' (by simp at hlen ⊢; omega) (by simpa using hsz) hsort' (fun i => ?_) ?_ hsm' hh' rel' hk
      · rw [hmem', hmem]
        by_cases hij : j = i
        · subst hij
          simp [Array.getD_eq_getD_getElem?, hsz, hjlt]
        · simp only [Array.getD_eq_getD_getElem?, Array.getElem?_setIfInBounds_ne hij]
          constructor
          · rintro ⟨h, _⟩; exact h
          · intro h; exact ⟨h, fun e => hij e.symm⟩
      · intro k o hko hlk e he hb
        have up : ∀ i, listed.getD i false = true → (listed.setIfInBounds j true).getD i false = true := fun i hi => by
          by_cases hij : j = i
          · subst hij; simp [Array.getD_eq_getD_getElem?, hsz, hjlt]
          · simp only [Array.getD_eq_getD_getElem?, Array.getElem?_setIfInBounds_ne hij]
            rw [Array.getD_eq_getD_getElem?] at hi; exact hi
        by_cases hkj : j = k
        · subst hkj
          rw [hojl] at hko
          simp only [Option.some.injEq] at hko
          subst hko
          exact up _ (hedges e he hb)
        · refine up _ (hcl k o hko ?_ e he hb)
          simp only [Array.getD_eq_getD_getElem?, Array.getElem?_setIfInBounds_ne hkj] at hlk ⊢
          exact hlk

theorem region_draw (hdr : md.dr = true) (hz : md.fz = true → E.n0 = 0) {id : Nat} {ops : Array Oper} (hm : P.follows .mixedOrders = true) (als : List (Tmp × Tmp)) (hs : List (Tmp × Nat)) (hok : regOk md ops.toList als hs = true) {a : Act} {w : World} {s : St} {G : GMem} {bl : Nat → Nat} (rel : Rel E a w s G bl)
    (hd : ∀ p ∈ als, Differ s p) (hh : ∀ p ∈ hs, HomeAt s p) {nb : Nat} (hho : homesOk hs ops.toList nb = true) (hn : E.n0 ≤ nb) {K : St → Prop} (hQ : ∀ a w, Post E K a w → Q .normal a w) (hrun : runL P md ops.toList nb (List.range ops.size) K s) : (Code.region id ops true).wp P Q a w := by
  refine wp_region_any hm ?_
  refine wpAny_run (md := md) hdr hz hok hd hho hn hQ ops.size _ (List.range ops.size) a _ s G bl (by simp) (by simp) (by exact List.pairwise_lt_range) (fun i => ?_) (fun k o _ hl => ?_) (fun p _ => ⟨rfl, rfl⟩) (Home.of_all hh) (rel.drew rfl rfl rfl rfl) hrun
  · simp only [List.mem_range]
    constructor
    · intro h; exact ⟨h, by simp [Array.getD_eq_getD_getElem?, h]⟩
    · intro h; exact h.1
  · exfalso
    simp only [Array.getD_eq_getD_getElem?, Array.getElem?_replicate] at hl
    split at hl <;> simp at hl

theorem region_text (hz : md.fz = true → E.n0 = 0) {id : Nat} {ops : Array Oper} {a : Act} {w : World} {s : St} {G : GMem} {bl : Nat → Nat} (rel : Rel E a w s G bl) {nb : Nat} (hn : E.n0 ≤ nb) {K : St → Prop} (hQ : ∀ a w, Post E K a w → Q .normal a w)
    (hrun : runL P md ops.toList nb (List.range ops.size) K s) : (Code.region id ops false).wp P Q a w :=
  wp_region (runL_text hz hn hQ _ rel hrun)

end
end Go.PL

namespace Go.PL
open Go.RowKit

def PWp (P : Program) (md : Md) (c : Code) (s : St) (Q : Exit → St → Prop) : Prop :=
  ∀ (E : Env) (a : Act) (w : World) (G : GMem) (bl : Nat → Nat), (md.fz = true → E.n0 = 0) → Rel E a w s G bl → c.wp P (fun e a' w' => Post E (Q e) a' w') a w

def wantD (ds : List (Option Tmp)) (s : St) (o : Oper) : Option Bool :=
  match o.guard with
  | none => some true
  | some (j, want) => match ds[j]? with
    | some (some d) => match s.slots[d]? with
      | some (.e (.c (.bool b))) => some (b == want)
      | some (.t []) => some false
      | _ => none
    | _ => none

def stepD (P : Program) (md : Md) (ds : List (Option Tmp)) (nid : Nat) (o : Oper) (K : St → Prop) (s : St) : Prop :=
  match wantD ds s o with
  | some true => actS P (mdOf md o.op) (wfOp md o.op) nid o.dst K s (evA P md.mb s o.op)
  | some false => K (s.put o.dst (.t []))
  | none => False

def rgn (P : Program) (md : Md) (ds : List (Option Tmp)) : List Oper → Nat → (St → Prop) → St → Prop
  | [], _, K, s => K s
  | o :: l, n, K, s => stepD P md ds n o (rgn P md ds l (if isNew o.op then n + 1 else n) K) s

def runT (P : Program) (md : Md) (ops : List Oper) : List Oper → Nat → (St → Prop) → St → Prop
  | [], _, K, s => K s
  | o :: l, n, K, s => step1 P md ops n o (runT P md ops l (if isNew o.op then n + 1 else n) K) s

theorem wantD_eq {ops : List Oper} {ds : List (Option Tmp)} {s : St} {o : Oper} (h : ops.map (·.dst) = ds ∨ o.guard = none) : wantD ds s o = wantedP ops s o := by
  unfold wantD wantedP
  cases hg : o.guard with
  | none => rfl
  | some g =>
    obtain ⟨j, want⟩ := g
    rcases h with h | h
    · subst h
      simp only [List.getElem?_map]
      cases hj : ops[j]? with
      | none => simp
      | some o' =>
        simp only [Option.map_some, Option.bind_some]
        cases o'.dst <;> rfl
    · rw [hg] at h; simp at h

theorem rgn_runT {P : Program} {md : Md} {ops : List Oper} {ds : List (Option Tmp)} {K : St → Prop} : ∀ (l : List Oper) (n : Nat), (ops.map (·.dst) = ds ∨ ∀ o ∈ l, o.guard = none) → rgn P md ds l n K = runT P md ops l n K
  | [], _, _ => rfl
  | o :: l, n, h => by
    have ih := rgn_runT (P := P) (md := md) (ops := ops) (ds := ds) (K := K) l (if isNew o.op then n + 1 else n) (h.imp id fun h o' ho => h o' (by simp [ho]))
    funext s
    simp only [rgn, runT, stepD, step1, ih]
    rw [wantD_eq (h.imp id fun h => h o (by simp))]
    cases wantedP ops s o with
    | none => rfl
    | some b => cases b <;> rfl

def dsOf (ops : List Oper) : List (Option Tmp) := if ops.all (fun o => o.guard.isNone) then [] else ops.map (·.dst)
def newsOf (ops : List Oper) : Nat := (ops.filter fun o => isNew o.op).length

def thenS (next : St → Prop) (Q : Exit → St → Prop) : Exit → St → Prop
  | .normal, s => next s
  | e, s => Q e s
def blockS (id : Nat) (Q : Exit → St → Prop) : Exit → St → Prop
  | .exit id', s => if id' = id then Q .normal s else Q (.exit id') s
  | e, s => Q e s

section
variable {P : Program} {md : Md} {s : St} {Q : Exit → St → Prop}

theorem runT_runL {ops : List Oper} {nb : Nat} {K : St → Prop} : ∀ (l pre : List Oper), ops = pre ++ l → runT P md ops l (nid ops nb pre.length) K = runL P md ops nb (List.range' pre.length l.length) K
  | [], pre, h => by funext s; simp [runT, runL]
  | o :: l, pre, h => by
    have ho : ops[pre.length]? = some o := by rw [h, List.getElem?_append_right (Nat.le_refl _)]; simp
    have hn : (if isNew o.op then nid ops nb pre.length + 1 else nid ops nb pre.length) = nid ops nb (pre ++ [o]).length := by
      unfold nid
      rw [List.length_append, List.length_singleton, List.take_add_one, ho]
      simp only [Option.toList_some, List.filter_append, List.length_append]
      by_cases hi : isNew o.op = true <;> simp [hi, Nat.add_assoc]
    have ih := runT_runL (ops := ops) (nb := nb) (K := K) l (pre ++ [o]) (by rw [h]; simp)
    funext s
    simp only [runT, List.length_cons, List.range'_succ, runL, ho]
    rw [hn, ih]
    simp

theorem runT_range {ops : List Oper} {nb : Nat} {K : St → Prop} {s : St} (h : runT P md ops ops nb K s) : runL P md ops nb (List.range ops.length) K s := by
  have := runT_runL (P := P) (md := md) (ops := ops) (nb := nb) (K := K) ops [] rfl
  rw [List.range_eq_range']
  have hn : nid ops nb ([] : List Oper).length = nb := by simp [nid]
  rw [hn] at this
  rw [← List.length_nil (α := Oper), ← this]
  exact h

theorem rgn_mono {ds : List (Option Tmp)} {K K' : St → Prop} (hK : ∀ s, K s → K' s) : ∀ (l : List Oper) (n : Nat) (s : St), rgn P md ds l n K s → rgn P md ds l n K' s
  | [], _, s, h => hK s h
  | o :: l, n, s, h => by
    have ih := rgn_mono (ds := ds) hK l (if isNew o.op then n + 1 else n)
    simp only [rgn, stepD] at h ⊢
    generalize mdOf md o.op = md1 at h ⊢
    cases hw : wantD ds s o with
    | none => rw [hw] at h; exact h
    | some b =>
      rw [hw] at h
      cases b with
      | false => exact ih _ h
      | true =>
        simp only at h ⊢
        cases hx : evA P md.mb s o.op with
        | val v => rw [hx] at h; exact ih _ h
        | mk m cs => rw [hx] at h; exact ih _ h
        | new v cs => rw [hx] at h; exact ⟨h.1, ih _ h.2⟩
        | sto id off cs => rw [hx] at h; obtain ⟨d, h1, h2, h3, h4⟩ := h; exact ⟨d, h1, h2, h3, ih _ h4⟩
        | call f ls =>
          rw [hx] at h
          simp only [actS, callS] at h ⊢
          split at h
          · rename_i hw2
            rw [if_pos hw2]
            obtain ⟨id, off, rest, cs, cs', r, h1, h2, h3, h4⟩ := h
            exact ⟨id, off, rest, cs, cs', r, h1, h2, h3, ih _ h4⟩
          · rename_i hw2
            rw [if_neg hw2]
            split at h
            · rename_i hw3
              rw [if_pos hw3]
              obtain ⟨r, h1, h2⟩ := h; exact ⟨r, h1, ih _ h2⟩
            · rename_i hw3
              rw [if_neg hw3]
              obtain ⟨h0, ⟨h1, h2, r, h3, h4⟩ | ⟨ha, R, h1, h2⟩ | ⟨ha, R, h1, h3, h2⟩⟩ := h
              · exact ⟨h0, .inl ⟨h1, h2, r, h3, ih _ h4⟩⟩
              · exact ⟨h0, .inr (.inl ⟨ha, R, h1, fun r σ' hR => ih _ (h2 r σ' hR)⟩)⟩
              · exact ⟨h0, .inr (.inr ⟨ha, R, h1, h3, fun r σ' hR => ih _ (h2 r σ' hR)⟩)⟩
        | app base sz z m cs =>
          rw [hx] at h
          obtain ⟨h0, h⟩ := h
          refine ⟨h0, ?_⟩
          cases base with
          | none => exact ⟨fun q => ih _ (h.1 q), fun q => ⟨(h.2 q).1, fun c hc => ih _ ((h.2 q).2 c hc)⟩⟩
          | some x =>
            obtain ⟨id, off, len, cap⟩ := x
            obtain ⟨d, h1, h2, h3⟩ := h
            exact ⟨d, h1, fun q => ⟨(h2 q).1, ih _ (h2 q).2⟩, fun q => ⟨(h3 q).1, (h3 q).2.1, fun c hc => ih _ ((h3 q).2.2 c hc)⟩⟩
        | bad => rw [hx] at h; exact h

theorem rgn_append {ds : List (Option Tmp)} {K : St → Prop} : ∀ (l l' : List Oper) (n : Nat), rgn P md ds (l ++ l') n K = rgn P md ds l n (rgn P md ds l' (n + newsOf l) K)
  | [], l', n => by simp [rgn, newsOf]
  | o :: l, l', n => by
    funext s
    simp only [List.cons_append, rgn]
    rw [rgn_append l l']
    congr 1
    congr 1
    unfold newsOf
    by_cases hi : isNew o.op = true
    · simp only [hi, if_true, List.filter_cons_of_pos, List.length_cons]
      congr 1; omega
    · simp only [hi, Bool.false_eq_true, if_false]
      rw [List.filter_cons_of_neg (by simpa using hi)]

theorem rgn_take {ds : List (Option Tmp)} {l : List Oper} {n : Nat} {K : St → Prop} {s : St} (m : Nat) (h : ∀ K' : St → Prop, (∀ s', rgn P md ds (l.drop m) (n + newsOf (l.take m)) K s' → K' s') → rgn P md ds (l.take m) n K' s) : rgn P md ds l n K s := by
  have := h _ fun _ h => h
  rw [← rgn_append, List.take_append_drop] at this
  exact this

theorem pwp_mono {c : Code} {Q' : Exit → St → Prop} (h : PWp P md c s Q) (hq : ∀ e s, Q e s → Q' e s) : PWp P md c s Q' :=
  fun E a w G bl hz rel => wp_mono (h E a w G bl hz rel) fun _ _ _ ⟨s', G', bl', hk, r⟩ => ⟨s', G', bl', hq _ _ hk, r⟩

theorem dsOf_spec {ops : List Oper} {ds : List (Option Tmp)} (h : dsOf ops = ds) : ops.map (·.dst) = ds ∨ ∀ o ∈ ops, o.guard = none := by
  unfold dsOf at h
  split at h
  · rename_i hall
    refine .inr fun o ho => ?_
    have := List.all_eq_true.1 hall o ho
    simpa using this
  · exact .inl h

theorem pwp_region {id : Nat} {ops : Array Oper} (k : Nat) (ds : List (Option Tmp)) (hds : dsOf ops.toList = ds) (h : ∀ K : St → Prop, (∀ s', Q .normal s' → K s') → rgn P md ds ops.toList s.st.length K (s.pad k)) : PWp P md (.region id ops false) s Q := by
  intro E a w G bl hz rel
  refine region_text hz (rel.pad k) rel.ext.len (K := Q .normal) (fun a w h => h) ?_
  have h' := h (Q .normal) fun _ h => h
  rw [rgn_runT (ops := ops.toList) _ _ (dsOf_spec hds)] at h'
  have := runT_range h'
  simpa using this

theorem homesOk_nil {ops : List Oper} {nb : Nat} : homesOk [] ops nb = true := by
  simp only [homesOk, List.all_eq_true]
  intro i _
  split
  · unfold homeOp; split <;> rfl
  · rfl
theorem pwp_drawH {id : Nat} {ops : Array Oper} (hm : P.follows .mixedOrders = true) (k : Nat) (ds : List (Option Tmp)) (hds : dsOf ops.toList = ds) (als : List (Tmp × Tmp)) (hs : List (Tmp × Nat)) (hok : regOk { md with dr := true } ops.toList als hs = true) (hho : homesOk hs ops.toList s.st.length = true) (hd : ∀ p ∈ als, Differ (s.pad k) p) (hh : ∀ p ∈ hs, HomeAt (s.pad k) p)
    (h : ∀ K : St → Prop, (∀ s', Q .normal s' → K s') → rgn P { md with dr := true } ds ops.toList s.st.length K (s.pad k)) : PWp P md (.region id ops true) s Q := by
  intro E a w G bl hz rel
  refine region_draw (md := { md with dr := true }) rfl hz hm als hs hok (rel.pad k) hd hh hho rel.ext.len (K := Q .normal) (fun a w h => h) ?_
  have h' := h (Q .normal) fun _ h => h
  rw [rgn_runT (ops := ops.toList) _ _ (dsOf_spec hds)] at h'
  have := runT_range h'
  simpa using this
theorem pwp_seq {x y : Code} (h : PWp P md x s (thenS (fun s' => PWp P md y s' Q) Q)) : PWp P md (.seq x y) s Q := by
  intro E a w G bl hz rel
  refine wp_seq (wp_mono (h E a w G bl hz rel) fun e a' w' hp => ?_)
  obtain ⟨s', G', bl', hk, r⟩ := hp
  cases e with
  | normal => exact hk E a' w' G' bl' hz r
  | _ => exact ⟨s', G', bl', hk, r⟩

theorem pwp_sr {id : Nat} {ops : Array Oper} {y : Code} (k : Nat) (ds : List (Option Tmp)) (hds : dsOf ops.toList = ds) (h : ∀ K : St → Prop, (∀ s', PWp P md y s' Q → K s') → rgn P md ds ops.toList s.st.length K (s.pad k)) : PWp P md (.seq (.region id ops false) y) s Q :=
  pwp_seq (pwp_region k ds hds fun K hK => h K hK)

theorem pwp_sdH {id : Nat} {ops : Array Oper} {y : Code} (hm : P.follows .mixedOrders = true) (k : Nat) (ds : List (Option Tmp)) (hds : dsOf ops.toList = ds) (als : List (Tmp × Tmp)) (hs : List (Tmp × Nat)) (hok : regOk { md with dr := true } ops.toList als hs = true) (hho : homesOk hs ops.toList s.st.length = true) (hd : ∀ p ∈ als, Differ (s.pad k) p) (hh : ∀ p ∈ hs, HomeAt (s.pad k) p)
    (h : ∀ K : St → Prop, (∀ s', PWp P md y s' Q → K s') → rgn P { md with dr := true } ds ops.toList s.st.length K (s.pad k)) : PWp P md (.seq (.region id ops true) y) s Q :=
  pwp_seq (pwp_drawH hm k ds hds als hs hok hho hd hh fun K hK => h K hK)
theorem pwp_skip (h : Q .normal s) : PWp P md .skip s Q := fun _ _ _ G bl _ rel => wp_skip ⟨s, G, bl, h, rel⟩
theorem pwp_ret (h : Q .ret s) : PWp P md .ret s Q := fun _ _ _ G bl _ rel => wp_ret ⟨s, G, bl, h, rel⟩
theorem pwp_exit {id : Nat} (h : Q (.exit id) s) : PWp P md (.exit id) s Q := fun _ _ _ G bl _ rel => wp_exit ⟨s, G, bl, h, rel⟩

theorem pwp_block {id : Nat} {c : Code} (h : PWp P md c s (blockS id Q)) : PWp P md (.block id c) s Q := by
  intro E a w G bl hz rel
  refine wp_block (wp_mono (h E a w G bl hz rel) fun e a' w' hp => ?_)
  cases e with
  | exit id' =>
    obtain ⟨s', G', bl', hk, r⟩ := hp
    simp only [blockS] at hk
    simp only [Exit.inBlock]
    split
    · rename_i he; rw [if_pos he] at hk; exact ⟨s', G', bl', hk, r⟩
    · rename_i he; rw [if_neg he] at hk; exact ⟨s', G', bl', hk, r⟩
  | _ => exact hp

theorem pwp_cond {c : Operand} {x y : Code} {b : Bool} (hc : s.pe c = some (.c (.bool b))) (ht : b = true → PWp P md x s Q) (hf : b = false → PWp P md y s Q) : PWp P md (.cond c x y) s Q := by
  intro E a w G bl hz rel
  have e := IRep.bool_inv (rel.rel.pe hc)
  exact wp_cond_split e (fun h => ht h E a w G bl hz rel) (fun h => hf h E a w G bl hz rel)

theorem wp_loopN {c : Code} {Q : Exit → Act → World → Prop} (I : Nat → Act → World → Prop) (round : ∀ n a w, I n a w → c.wp P (Exit.then (fun a' w' => ∃ m, m < n ∧ I m a' w') Q) a w) {n : Nat} {a : Act} {w : World} (h0 : I n a w) : (Code.loop c).wp P Q a w := by
  intro b k cs
  have key : ∀ n a w, I n a w → ∃ e a' w', Q e a' w' ∧ Arrives P (lone (b.at a (.code c :: .inLoop c :: k)) cs w) b k cs e a' w' := by
    intro n
    induction n using Nat.strongRecOn with
    | _ n ih =>
      intro a w hI
      obtain ⟨e, a₁, w₁, hq, harr⟩ := round n a w hI b (.inLoop c :: k) cs
      cases e with
      | normal =>
        obtain ⟨m, hlt, hI₁⟩ := hq
        obtain ⟨e₂, a₂, w₂, hq₂, harr₂⟩ := ih m hlt a₁ w₁ hI₁
        exact ⟨e₂, a₂, w₂, hq₂, .of_steps (Steps.trans harr (.one step_inLoop)) harr₂⟩
      | exit id => exact ⟨_, a₁, w₁, hq, .pass (x := .inLoop c) rfl (fun _ _ => .inl (by simp)) harr⟩
      | goto l => exact ⟨_, a₁, w₁, hq, .pass (x := .inLoop c) rfl (fun _ _ => .inl (by simp)) harr⟩
      | ret => exact ⟨_, a₁, w₁, hq, .pass (x := .inLoop c) rfl (fun _ _ => .inl (by simp)) harr⟩
      | panic ch => exact ⟨_, a₁, w₁, hq, .pass (x := .inLoop c) rfl (fun _ _ => .inl (by simp)) harr⟩
      | outgrown => exact ⟨_, a₁, w₁, hq, .pass (x := .inLoop c) rfl (fun _ _ => .inl (by simp)) harr⟩
  obtain ⟨e, a', w', hq, harr⟩ := key n a w h0
  exact ⟨e, a', w', hq, .of_steps (.one step_loop) harr⟩

theorem pwp_weaken {c : Code} {s' : St} (hs : ∀ (E : Env) (a : Act) (w : World) (G : GMem) (bl : Nat → Nat), (md.fz = true → E.n0 = 0) → Rel E a w s G bl → ∃ G', Rel E a w s' G' bl) (h : PWp P md c s' Q) : PWp P md c s Q :=
  fun E a w G bl hz rel => let ⟨G', r⟩ := hs E a w G bl hz rel; h E a w G' bl hz r

def PV.forgets (v v' : PV) : Prop := v' = v ∨ v' = .j

def PC.lt (n : Nat) : PC → Bool
  | .ptr id _ | .msl id _ _ _ _ => decide (id < n)
  | .clo _ ps => ps.all fun p => decide (p.1 < n)
  | _ => true
def PE.lt (n : Nat) : PE → Bool
  | .c p => p.lt n
  | .a cs => cs.all (PC.lt n)
def PV.lt (n : Nat) : PV → Bool
  | .e x => x.lt n
  | .t xs => xs.all (PE.lt n)
  | .j => true
def Box.lt (n : Nat) : Box → Bool
  | .live cs => cs.all (PC.lt n)
  | _ => true

theorem RepC.restrict {G : GMem} {bl : Nat → Nat} {L L' : Nat → Prop} {n : Nat} (hl : ∀ id, id < n → L id → L' id) {v : Value} {p : PC} (hp : p.lt n = true) (h : RepC G bl L v p) : RepC G bl L' v p := by
  cases p with
  | ptr id off => obtain ⟨h1, h2⟩ := h; exact ⟨hl _ (by simpa [PC.lt] using hp) h1, h2⟩
  | msl id off len cap sz => obtain ⟨h1, h2, h3⟩ := h; exact ⟨hl _ (by simpa [PC.lt] using hp) h1, h2, h3⟩
  | clo f ps =>
    obtain ⟨arr, h1, h2, h3⟩ := h
    refine ⟨arr, h1, h2, fun p hp' => hl _ ?_ (h3 p hp')⟩
    simp only [PC.lt, List.all_eq_true, decide_eq_true_eq] at hp
    exact hp p hp'
  | _ => exact h
theorem All2.restrict {G : GMem} {bl : Nat → Nat} {L L' : Nat → Prop} {n : Nat} (hl : ∀ id, id < n → L id → L' id) {l : List Value} {cs : List PC} (hp : cs.all (PC.lt n) = true) (h : All2 (RepC G bl L) l cs) : All2 (RepC G bl L') l cs := by
  induction h with
  | nil => exact .nil
  | cons h _ ih =>
    simp only [List.all_cons, Bool.and_eq_true] at hp
    exact .cons (h.restrict hl hp.1) (ih hp.2)
theorem RepE.restrict {G : GMem} {bl : Nat → Nat} {L L' : Nat → Prop} {n : Nat} (hl : ∀ id, id < n → L id → L' id) {v : Value} {p : PE} (hp : p.lt n = true) (h : RepE G bl L v p) : RepE G bl L' v p := by
  cases p with
  | c p => exact RepC.restrict hl hp h
  | a cs => obtain ⟨arr, h1, h2⟩ := h; exact ⟨arr, h1, h2.restrict hl hp⟩
theorem All2.restrictE {G : GMem} {bl : Nat → Nat} {L L' : Nat → Prop} {n : Nat} (hl : ∀ id, id < n → L id → L' id) {l : List Value} {cs : List PE} (hp : cs.all (PE.lt n) = true) (h : All2 (RepE G bl L) l cs) : All2 (RepE G bl L') l cs := by
  induction h with
  | nil => exact .nil
  | cons h _ ih =>
    simp only [List.all_cons, Bool.and_eq_true] at hp
    exact .cons (h.restrict hl hp.1) (ih hp.2)
theorem RepV.restrict {G : GMem} {bl : Nat → Nat} {L L' : Nat → Prop} {n : Nat} (hl : ∀ id, id < n → L id → L' id) {v : Value} {p : PV} (hp : p.lt n = true) (h : RepV G bl L v p) : RepV G bl L' v p := by
  cases p with
  | e x => exact RepE.restrict hl hp h
  | t xs => obtain ⟨arr, h1, h2⟩ := h; exact ⟨arr, h1, h2.restrictE hl hp⟩
  | j => trivial

theorem take_there {σ : List Box} {n id : Nat} (hn : id < n) (h : There σ id) : There (σ.take n) id := by
  obtain ⟨b, hb, ht⟩ := h
  exact ⟨b, by rw [List.getElem?_take, if_pos hn]; exact hb, ht⟩
theorem take_get {σ : List Box} {n id : Nat} {b : Box} (h : (σ.take n)[id]? = some b) : id < n ∧ σ[id]? = some b := by
  rw [List.getElem?_take] at h
  split at h
  · rename_i hn; exact ⟨hn, h⟩
  · simp at h

theorem RelS.take {G : GMem} {bl : Nat → Nat} {w : World} {σ : List Box} (h : RelS G bl w σ) {n : Nat} (hs : (σ.take n).all (Box.lt n) = true) : RelS G bl w (σ.take n) := by
  refine ⟨h.agree, fun id cs hid => ?_, fun id cs hid => h.frz id cs (take_get hid).2, fun id id' cs cs' hid hid' => h.inj id id' cs cs' (take_get hid).2 (take_get hid').2⟩
  obtain ⟨arr, e, h1, h2, h3⟩ := h.live id cs (take_get hid).2
  have := List.all_eq_true.1 hs _ (List.mem_of_getElem? hid)
  exact ⟨arr, e, h1, h2.restrict (n := n) (fun j hj => take_there hj) this, h3⟩

theorem pwp_frz {c : Code} (ids : List Nat) (hn : md.fz = true) (h : PWp P md c (ids.foldl frz1 s) Q) : PWp P md c s Q :=
  pwp_weaken (fun _ _ _ _ _ hz rel => let ⟨G1, _, r⟩ := Rel.frzIds (hz hn) ids rel; ⟨G1, r⟩) h

def keep : List Bool → List PV → List PV
  | b :: m, v :: l => (if b then v else .j) :: keep m l
  | _, _ => []
def St.cut (s : St) (m : List Bool) (n : Nat) : St := { slots := keep m s.slots, st := s.st.take n }
def cutOk (s : St) (m : List Bool) (n : Nat) : Prop := m.length = s.slots.length ∧ (keep m s.slots).all (PV.lt n) = true ∧ (s.st.take n).all (Box.lt n) = true

theorem Rel.cut {E : Env} {a : Act} {w : World} {G : GMem} {bl : Nat → Nat} (rel : Rel E a w s G bl) (h0 : E.n0 = 0) {m : List Bool} {n : Nat} (h : cutOk s m n) : Rel E a w (s.cut m n) G bl := by
  obtain ⟨h1, h2, h3⟩ := h
  refine ⟨⟨?_, rel.rel.defers, rel.rel.st.take h3⟩, ?_⟩
  · have := rel.rel.slots
    clear h3 rel
    simp only [St.cut]
    generalize a.tmps.toList = l at this
    generalize s.slots = sl at this h1 h2
    induction this generalizing m with
    | nil => cases m with | nil => exact .nil | cons => simp at h1
    | cons hh _ ih =>
      cases m with
      | nil => simp at h1
      | cons b m =>
        simp only [keep, List.all_cons, Bool.and_eq_true] at h2 ⊢
        refine .cons ?_ (ih (by simpa using h1) h2.2)
        cases b with
        | true => exact hh.restrict (n := n) (fun j hj => take_there hj) h2.1
        | false => trivial
  · have hx := rel.ext
    exact ⟨hx.os, hx.tape, hx.output, hx.size, hx.block, hx.gle, hx.gnew, hx.same, fun id cs a1 a2 => hx.fresh id cs a1 (take_get a2).2, by rw [h0]; exact Nat.zero_le _⟩

theorem pwp_loopF {c : Code} (m : List Bool) (nb : Nat) (I : Nat → St → Prop) {n : Nat} (hz : md.fz = true) (h0 : I n (s.cut m nb)) (hc : cutOk s m nb)
    (round : ∀ n s, I n s → PWp P md c s (thenS (fun s' => ∃ k, k < n ∧ I k (s'.cut m nb) ∧ cutOk s' m nb) Q)) : PWp P md (.loop c) s Q := by
  refine pwp_weaken (s' := s.cut m nb) (fun E a w G bl hz' rel => ⟨G, rel.cut (hz' hz) hc⟩) ?_
  intro E a w G bl hz' rel
  refine wp_loopN (fun n a w => ∃ s G bl, I n s ∧ Rel E a w s G bl) (fun n a w hI => ?_) ⟨_, G, bl, h0, rel⟩
  obtain ⟨s1, G1, bl1, hi, rel1⟩ := hI
  refine wp_mono (round n s1 hi E a w G1 bl1 hz' rel1) fun e a' w' hp => ?_
  obtain ⟨s', G', bl', hk, r⟩ := hp
  cases e with
  | normal => obtain ⟨k, hm, hk, hok⟩ := hk; exact ⟨k, hm, _, G', bl', hk, r.cut (hz' hz) hok⟩
  | _ => exact ⟨s', G', bl', hk, r⟩

-- ways through the posts
theorem pwp_join {x y : Code} (m : List Bool) (nb : Nat) (I : St → Prop) (hz : md.fz = true)
    (h : PWp P md x s (thenS (fun s' => I (s'.cut m nb) ∧ cutOk s' m nb) Q)) (h2 : ∀ s, I s → PWp P md y s Q) : PWp P md (.seq x y) s Q :=
  pwp_seq (pwp_mono h fun e s' => by
    cases e with
    | normal => exact fun ⟨h3, h4⟩ => pwp_weaken (s' := s'.cut m nb) (fun E a w G bl hz' rel => ⟨G, rel.cut (hz' hz) h4⟩) (h2 _ h3)
    | _ => exact id)

theorem n_then {next : St → Prop} (h : next s) : thenS next Q .normal s := h
theorem r_then {next : St → Prop} (h : Q .ret s) : thenS next Q .ret s := h
theorem e_then {next : St → Prop} {i : Nat} (h : Q (.exit i) s) : thenS next Q (.exit i) s := h
theorem n_block {i : Nat} (h : Q .normal s) : blockS i Q .normal s := h
theorem r_block {i : Nat} (h : Q .ret s) : blockS i Q .ret s := h
theorem e_here {i : Nat} (h : Q .normal s) : blockS i Q (.exit i) s := by simp only [blockS, if_true]; exact h
theorem e_block {i j : Nat} (hn : j ≠ i) (h : Q (.exit j) s) : blockS i Q (.exit j) s := by simp only [blockS]; rw [if_neg hn]; exact h

def resE (P : Program) (s : St) : ResultVar → Option PE
  | .tmp t => s.pe (.tmp t)
  | .cell x t => match tiOf P t with
    | some i => loadA i s.st (s.pe (.tmp x))
    | none => none
def resAll (P : Program) (s : St) : List ResultVar → Option (List PE)
  | [] => some []
  | x :: l => match resE P s x, resAll P s l with
    | some p, some ps => some (p :: ps)
    | _, _ => none
def pack : List PE → PV
  | [x] => .e x
  | xs => .t xs

def EndsP (P : Program) (rs : List ResultVar) (s : St) (r : PV) : Prop :=
  ∃ l, resAll P s rs = some l ∧ (if l.all PE.im = true then r = pack (l.map PE.norm) else ((l.map (immE (frzL s l).st)).all PE.im = true ∧ r = pack ((l.map (immE (frzL s l).st)).map PE.norm)))

def rdRes (tmps : Array Value) : ResultVar → Sem Value
  | .tmp t => pure (tmps.getD t undef)
  | .cell b t => do loadVar t (← asAddr (tmps.getD b undef))

theorem run_resE {E : Env} {a : Act} {w : World} {G : GMem} {bl : Nat → Nat} (rel : Rel E a w s G bl) {x : ResultVar} {p : PE} (h : resE P s x = some p) :
    ∃ u, (rdRes a.tmps x).run P w = .ok u w ∧ RepE G bl (There s.st) u p := by
  cases x with
  | tmp t =>
    have := rel.rel.pe (x := .tmp t) h
    exact ⟨_, rfl, this⟩
  | cell b t =>
    simp only [resE] at h
    split at h <;> try (cases h; done)
    rename_i i ht
    cases hx : s.pe (.tmp b) with
    | none => rw [hx] at h; simp [loadA] at h
    | some q =>
      rw [hx] at h
      have hq := rel.rel.pe hx
      obtain ⟨u, h1, h2⟩ := rel.rel.st.loadA ht hq h
      refine ⟨u, ?_, h2⟩
      have hev : a.eval (.tmp b) = a.tmps.getD b undef := rfl
      rw [hev] at h1
      unfold loadA at h
      split at h
      · rename_i id off heq
        simp only [Option.some.injEq] at heq
        subst heq
        obtain ⟨_, e⟩ := hq
        rw [hev] at e
        rw [e] at h1
        simp only [rdRes, e, Sem.run_bind, asAddr, Sem.run_pure, Result.andThen_ok]
        simpa [Instr.loadAt, Instr.sureAddr] using h1
      · rename_i cs heq
        simp only [Option.some.injEq] at heq
        subst heq
        obtain ⟨b', off, us, e, _, _⟩ := IRep.iptr_inv hq
        rw [hev] at e
        rw [e] at h1
        simp only [rdRes, e, Sem.run_bind, asAddr, Sem.run_pure, Result.andThen_ok]
        simpa [Instr.loadAt, Instr.sureAddr] using h1
      · simp at h

theorem run_results {E : Env} {a : Act} {w : World} {G : GMem} {bl : Nat → Nat} (rel : Rel E a w s G bl) : ∀ {rs : List ResultVar} {l : List PE}, resAll P s rs = some l →
    ∃ us : List Value, (rs.mapM (rdRes a.tmps)).run P w = .ok us w ∧ All2 (RepE G bl (There s.st)) us l
  | [], l, h => by simp [resAll] at h; subst h; exact ⟨[], rfl, .nil⟩
  | x :: rs, l, h => by
    simp only [resAll] at h
    split at h <;> try (cases h; done)
    rename_i p ps h1 h2
    simp only [Option.some.injEq] at h
    subst h
    obtain ⟨u, g1, g2⟩ := run_resE rel h1
    obtain ⟨us, g3, g4⟩ := run_results rel h2
    refine ⟨u :: us, ?_, .cons g2 g4⟩
    rw [List.mapM_cons]
    simp only [Sem.run_bind]
    rw [g1]
    simp only [Result.andThen_ok]
    rw [g3]
    rfl

def packV : List Value → Value
  | [u] => u
  | us => .tuple us.toArray

theorem run_results' {fn : Func} {tmps : Array Value} {w : World} {us : List Value} (h : (fn.results.toList.mapM (rdRes tmps)).run P w = .ok us w) :
    (results fn tmps).run P w = .ok (packV us) w := by
  have e : results fn tmps = (do
      let vs ← fn.results.mapM (rdRes tmps)
      pure (if h : vs.size = 1 then vs[0] else .tuple vs)) := by
    unfold results
    congr 1
  rw [e, Sem.run_bind, Array.mapM_eq_mapM_toList, Sem.run_map, h]
  simp only [Result.andThen_ok, Sem.run_pure]
  match us with
  | [] => rfl
  | [u] => rfl
  | u :: u' :: us => simp; rfl

theorem pack_rep {G : GMem} {bl : Nat → Nat} {L : Nat → Prop} {us : List Value} {l : List PE} (h : All2 (RepE G bl L) us l) : RepV G bl L (packV us) (pack l) := by
  cases h with
  | nil => exact ⟨#[], rfl, .nil⟩
  | cons h1 h2 =>
    cases h2 with
    | nil => exact h1
    | cons h2 h3 => exact ⟨_, rfl, .cons h1 (.cons h2 h3)⟩

theorem ret_of_body {f : FuncId} {fn : Func} {c : Code} (hf : P.funcs[f]? = some fn) (hname : (fn.name == "runtime.NumGoroutine") = false) (hb : fn.body = some c) {args : List PE} {r : PV}
    (h : PWp P md c { slots := args.map .e ++ List.replicate (fn.ntmps - args.length) (.t []), st := [] } fun e s => (e = .normal ∨ e = .ret) ∧ EndsP P fn.results.toList s r) : Ret P f args r := by
  refine ⟨⟨fn, hf, hname, by rw [hb]; rfl⟩, fun G w vs hag hvs => ?_⟩
  refine calls_of_wp hf hb ?_
  let E : Env := { w0 := w, G0 := G, bl0 := fun _ => 0, n0 := 0 }
  have hlen : vs.size = args.length := by have := hvs.length; simpa using this
  have hno : ∀ id, ¬ There ([] : List Box) id := by rintro id ⟨b, hb, _⟩; simp at hb
  have rel : Rel E { tmps := vs ++ Array.replicate (fn.ntmps - vs.size) undef, defers := [] } w { slots := args.map .e ++ List.replicate (fn.ntmps - args.length) (.t []), st := [] } G (fun _ => 0) := by
    refine ⟨⟨?_, rfl, ⟨hag, fun id cs h => by simp at h, fun id cs h => by simp at h, fun id id' cs cs' h => by simp at h⟩⟩, ⟨rfl, rfl, rfl, Nat.le_refl _, fun k _ _ => rfl, GLe.refl G, fun b o u h => .inl h, fun _ _ => rfl, fun id cs _ h => by simp at h, Nat.le_refl _⟩⟩
    simp only [Array.toList_append, Array.toList_replicate, hlen]
    refine All2.append (All2.map_right ?_) (All2.replicate _ undef_rep)
    exact hvs.mono fun u p hu => RepE.mono (GLe.refl G) (fun _ h => h.elim) (fun _ h => h.elim) hu
  refine wp_mono (h E _ w G (fun _ => 0) (fun _ => rfl) rel) fun e a' w' hp => ?_
  obtain ⟨s', G', bl', ⟨he, l, hl, hr⟩, rel'⟩ := hp
  obtain ⟨us, g1, g2⟩ := run_results rel' hl
  have g3 := run_results' g1
  have hx := rel'.ext
  have fin : ∃ v, (results fn a'.tmps).run P w' = .ok v w' ∧ ∃ v' G'', Ending.returned v = .returned v' ∧ RepV G'' (fun _ => 0) (fun _ => False) v' r ∧ Agree G'' w' ∧ GLe G G'' ∧ (∀ b o u, G'' b o = some u → G b o = some u ∨ w.heap.size ≤ b) ∧ Below w.heap.size w w' := by
    refine ⟨_, g3, packV us, ?_⟩
    have below : ∀ {G1 : GMem}, Rel E a' w' s' G1 bl' → Below w.heap.size w w' := fun {G1} r1 =>
      ⟨r1.ext.os, r1.ext.tape, r1.ext.output, r1.ext.size, fun k hk => r1.ext.block k hk fun id hid => absurd hid (Nat.not_lt_zero _)⟩
    split at hr
    · rename_i him
      subst hr
      refine ⟨G', rfl, ?_, rel'.rel.st.agree, hx.gle, hx.gnew, below rel'⟩
      exact pack_rep (All2.normE (g2.of_im him))
    · obtain ⟨him, rfl⟩ := hr
      obtain ⟨G1, hg1, rel1⟩ := Rel.frzL (E := E) rfl l rel'
      have h3 : All2 (RepE G1 bl' (There (PL.frzL s' l).st)) us l := g2.mono fun u p => RepE.mono hg1 (fun _ _ => rfl) (fun j => frzL_there l)
      refine ⟨G1, rfl, pack_rep (All2.normE ((rel1.rel.st.immL h3).of_im him)), rel1.rel.st.agree, rel1.ext.gle, rel1.ext.gnew, below rel'⟩
  rcases he with rfl | rfl
  · exact ⟨rel'.rel.defers, fin⟩
  · exact ⟨rel'.rel.defers, fin⟩


noncomputable def rgnX (P : Program) (md : Md) (ds : List (Option Tmp)) (l : List Oper) (n : Nat) (K : St → Prop) : St → Prop :=
  Classical.choose (⟨rgn P md ds l n K, rfl⟩ : ∃ f : St → Prop, f = rgn P md ds l n K)
theorem rgnX_eq (P : Program) (md : Md) (ds : List (Option Tmp)) (l : List Oper) (n : Nat) (K : St → Prop) : rgnX P md ds l n K = rgn P md ds l n K :=
  Classical.choose_spec (⟨rgn P md ds l n K, rfl⟩ : ∃ f : St → Prop, f = rgn P md ds l n K)
theorem rgnX_nil (P : Program) (md : Md) (ds : List (Option Tmp)) (n : Nat) (K : St → Prop) (s : St) : rgnX P md ds [] n K s = K s := by rw [rgnX_eq]; rfl
theorem rgnX_cons (P : Program) (md : Md) (ds : List (Option Tmp)) (o : Oper) (l : List Oper) (n : Nat) (K : St → Prop) (s : St) :
    rgnX P md ds (o :: l) n K s = stepD P md ds n o (rgnX P md ds l (if isNew o.op then n + 1 else n) K) s := by rw [rgnX_eq, rgnX_eq]; rfl
theorem rgnX_take {P : Program} {md : Md} {ds : List (Option Tmp)} {l : List Oper} {n : Nat} {K : St → Prop} {s : St} (m : Nat) (h : ∀ K' : St → Prop, (∀ s', rgnX P md ds (l.drop m) (n + newsOf (l.take m)) K s' → K' s') → rgnX P md ds (l.take m) n K' s) : rgnX P md ds l n K s := by
  rw [rgnX_eq]
  refine rgn_take m fun K' hK' => ?_
  rw [← rgnX_eq]
  exact h K' fun s' h' => hK' s' (by rw [← rgnX_eq]; exact h')
theorem pwx_region {P : Program} {md : Md} {s : St} {Q : Exit → St → Prop} {id : Nat} {ops : Array Oper} (k : Nat) (ds : List (Option Tmp)) (hds : dsOf ops.toList = ds) (h : ∀ K : St → Prop, (∀ s', Q .normal s' → K s') → rgnX P md ds ops.toList s.st.length K (s.pad k)) : PWp P md (.region id ops false) s Q :=
  pwp_region k ds hds fun K hK => by rw [← rgnX_eq]; exact h K hK
theorem pwx_drawH {P : Program} {md : Md} {s : St} {Q : Exit → St → Prop} {id : Nat} {ops : Array Oper} (hm : P.follows .mixedOrders = true) (k : Nat) (ds : List (Option Tmp)) (hds : dsOf ops.toList = ds) (als : List (Tmp × Tmp)) (hs : List (Tmp × Nat)) (hok : regOk { md with dr := true } ops.toList als hs = true) (hho : homesOk hs ops.toList s.st.length = true) (hd : ∀ p ∈ als, Differ (s.pad k) p) (hh : ∀ p ∈ hs, HomeAt (s.pad k) p)
    (h : ∀ K : St → Prop, (∀ s', Q .normal s' → K s') → rgnX P { md with dr := true } ds ops.toList s.st.length K (s.pad k)) : PWp P md (.region id ops true) s Q :=
  pwp_drawH hm k ds hds als hs hok hho hd hh fun K hK => by rw [← rgnX_eq]; exact h K hK
theorem pwx_draw {P : Program} {md : Md} {s : St} {Q : Exit → St → Prop} {id : Nat} {ops : Array Oper} (hm : P.follows .mixedOrders = true) (k : Nat) (ds : List (Option Tmp)) (hds : dsOf ops.toList = ds) (als : List (Tmp × Tmp)) (hok : regOk { md with dr := true } ops.toList als = true) (hd : ∀ p ∈ als, Differ (s.pad k) p)
    (h : ∀ K : St → Prop, (∀ s', Q .normal s' → K s') → rgnX P { md with dr := true } ds ops.toList s.st.length K (s.pad k)) : PWp P md (.region id ops true) s Q :=
  pwx_drawH hm k ds hds als [] hok homesOk_nil hd (fun _ h => nomatch h) h
theorem pwx_sr {P : Program} {md : Md} {s : St} {Q : Exit → St → Prop} {id : Nat} {ops : Array Oper} {y : Code} (k : Nat) (ds : List (Option Tmp)) (hds : dsOf ops.toList = ds) (h : ∀ K : St → Prop, (∀ s', PWp P md y s' Q → K s') → rgnX P md ds ops.toList s.st.length K (s.pad k)) : PWp P md (.seq (.region id ops false) y) s Q :=
  pwp_sr k ds hds fun K hK => by rw [← rgnX_eq]; exact h K hK
theorem pwx_sdH {P : Program} {md : Md} {s : St} {Q : Exit → St → Prop} {id : Nat} {ops : Array Oper} {y : Code} (hm : P.follows .mixedOrders = true) (k : Nat) (ds : List (Option Tmp)) (hds : dsOf ops.toList = ds) (als : List (Tmp × Tmp)) (hs : List (Tmp × Nat)) (hok : regOk { md with dr := true } ops.toList als hs = true) (hho : homesOk hs ops.toList s.st.length = true) (hd : ∀ p ∈ als, Differ (s.pad k) p) (hh : ∀ p ∈ hs, HomeAt (s.pad k) p)
    (h : ∀ K : St → Prop, (∀ s', PWp P md y s' Q → K s') → rgnX P { md with dr := true } ds ops.toList s.st.length K (s.pad k)) : PWp P md (.seq (.region id ops true) y) s Q :=
  pwp_sdH hm k ds hds als hs hok hho hd hh fun K hK => by rw [← rgnX_eq]; exact h K hK
theorem pwx_sd {P : Program} {md : Md} {s : St} {Q : Exit → St → Prop} {id : Nat} {ops : Array Oper} {y : Code} (hm : P.follows .mixedOrders = true) (k : Nat) (ds : List (Option Tmp)) (hds : dsOf ops.toList = ds) (als : List (Tmp × Tmp)) (hok : regOk { md with dr := true } ops.toList als = true) (hd : ∀ p ∈ als, Differ (s.pad k) p)
    (h : ∀ K : St → Prop, (∀ s', PWp P md y s' Q → K s') → rgnX P { md with dr := true } ds ops.toList s.st.length K (s.pad k)) : PWp P md (.seq (.region id ops true) y) s Q :=
  pwx_sdH hm k ds hds als [] hok homesOk_nil hd (fun _ h => nomatch h) h

end
end Go.PL

namespace Go.Proofs
open Go Go.PL
set_option maxRecDepth 100000
theorem Tryz.mixed : Tryz.prog.follows .mixedOrders = true := by kernel_rfl
@[go_sem] theorem Tryz.ti2 : tiOf Tryz.prog 2 = some { size := 1, bytes := 8, agg := false, zero := some [.int .i64 0], k := .int .i64 } := by kernel_rfl
@[go_sem] theorem Tryz.ti3 : tiOf Tryz.prog 3 = some { size := 1, bytes := 8, agg := false, zero := some [.int .i64 0], k := .int .i64 } := by kernel_rfl
@[go_sem] theorem Tryz.ti4 : tiOf Tryz.prog 4 = some { size := 1, bytes := 1, agg := false, zero := some [.bool false], k := .bool } := by kernel_rfl
@[go_sem] theorem Tryz.ti5 : tiOf Tryz.prog 5 = some { size := 1, bytes := 1, agg := false, zero := some [.int .u8 0], k := .int .u8 } := by kernel_rfl
@[go_sem] theorem Tryz.ti6 : tiOf Tryz.prog 6 = some { size := 1, bytes := 1, agg := false, zero := some [.int .u8 0], k := .int .u8 } := by kernel_rfl
@[go_sem] theorem Tryz.ti7 : tiOf Tryz.prog 7 = some { size := 4, bytes := 24, agg := true, zero := some [.int .i64 0, .int .i64 0, .bool false, .int .u8 0], k := .struct [(0, 1, false), (1, 1, false), (2, 1, false), (3, 1, false)] } := by kernel_rfl
@[go_sem] theorem Tryz.ti8 : tiOf Tryz.prog 8 = some { size := 4, bytes := 24, agg := true, zero := some [.int .i64 0, .int .i64 0, .bool false, .int .u8 0], k := .struct [(0, 1, false), (1, 1, false), (2, 1, false), (3, 1, false)] } := by kernel_rfl
@[go_sem] theorem Tryz.ti12 : tiOf Tryz.prog 12 = some { size := 1, bytes := 8, agg := false, zero := some [.int .u64 0], k := .int .u64 } := by kernel_rfl
@[go_sem] theorem Tryz.ti15 : tiOf Tryz.prog 15 = some { size := 1, bytes := 8, agg := false, zero := some [.raw (.pointer none)], k := .other } := by kernel_rfl
@[go_sem] theorem Tryz.ti16 : tiOf Tryz.prog 16 = some { size := 1, bytes := 8, agg := false, zero := some [.raw (.pointer none)], k := .other } := by kernel_rfl
@[go_sem] theorem Tryz.ti17 : tiOf Tryz.prog 17 = some { size := 1, bytes := 8, agg := false, zero := some [.raw (.pointer none)], k := .other } := by kernel_rfl
@[go_sem] theorem Tryz.ti18 : tiOf Tryz.prog 18 = some { size := 1, bytes := 8, agg := true, zero := some [.raw (.pointer none)], k := .struct [(0, 1, false)] } := by kernel_rfl
@[go_sem] theorem Tryz.ti19 : tiOf Tryz.prog 19 = some { size := 1, bytes := 8, agg := true, zero := some [.raw (.pointer none)], k := .struct [(0, 1, false)] } := by kernel_rfl
@[go_sem] theorem Tryz.ti21 : tiOf Tryz.prog 21 = some { size := 1, bytes := 4, agg := false, zero := some [.int .i32 0], k := .int .i32 } := by kernel_rfl
@[go_sem] theorem Tryz.ti22 : tiOf Tryz.prog 22 = some { size := 1, bytes := 24, agg := false, zero := some [.nils], k := .slice 118 } := by kernel_rfl
@[go_sem] theorem Tryz.ti23 : tiOf Tryz.prog 23 = some { size := 2, bytes := 32, agg := true, zero := some [.bool false, .nils], k := .struct [(0, 1, false), (1, 1, false)] } := by kernel_rfl
@[go_sem] theorem Tryz.ti24 : tiOf Tryz.prog 24 = some { size := 2, bytes := 32, agg := true, zero := some [.bool false, .nils], k := .struct [(0, 1, false), (1, 1, false)] } := by kernel_rfl
@[go_sem] theorem Tryz.ti25 : tiOf Tryz.prog 25 = some { size := 4, bytes := 64, agg := true, zero := some [.bool false, .nils, .bool false, .nils], k := .struct [(0, 2, true), (2, 2, true)] } := by kernel_rfl
@[go_sem] theorem Tryz.ti26 : tiOf Tryz.prog 26 = some { size := 4, bytes := 64, agg := true, zero := some [.bool false, .nils, .bool false, .nils], k := .struct [(0, 2, true), (2, 2, true)] } := by kernel_rfl
@[go_sem] theorem Tryz.ti27 : tiOf Tryz.prog 27 = some { size := 24, bytes := 384, agg := true, zero := some [.bool false, .nils, .bool false, .nils, .bool false, .nils, .bool false, .nils, .bool false, .nils, .bool false, .nils, .bool false, .nils, .bool false, .nils, .bool false, .nils, .bool false, .nils, .bool false, .nils, .bool false, .nils], k := .struct [(0, 4, true), (4, 4, true), (8, 4, true), (12, 4, true), (16, 4, true), (20, 4, true)] } := by kernel_rfl
@[go_sem] theorem Tryz.ti28 : tiOf Tryz.prog 28 = some { size := 24, bytes := 384, agg := true, zero := some [.bool false, .nils, .bool false, .nils, .bool false, .nils, .bool false, .nils, .bool false, .nils, .bool false, .nils, .bool false, .nils, .bool false, .nils, .bool false, .nils, .bool false, .nils, .bool false, .nils, .bool false, .nils], k := .struct [(0, 4, true), (4, 4, true), (8, 4, true), (12, 4, true), (16, 4, true), (20, 4, true)] } := by kernel_rfl
@[go_sem] theorem Tryz.ti33 : tiOf Tryz.prog 33 = some { size := 1, bytes := 2, agg := false, zero := some [.int .u16 0], k := .int .u16 } := by kernel_rfl
@[go_sem] theorem Tryz.ti38 : tiOf Tryz.prog 38 = some { size := 12, bytes := 192, agg := true, zero := some [.bool false, .nils, .bool false, .nils, .bool false, .nils, .bool false, .nils, .bool false, .nils, .bool false, .nils], k := .struct [(0, 4, true), (4, 4, true), (8, 4, true)] } := by kernel_rfl
@[go_sem] theorem Tryz.ti39 : tiOf Tryz.prog 39 = some { size := 12, bytes := 192, agg := true, zero := some [.bool false, .nils, .bool false, .nils, .bool false, .nils, .bool false, .nils, .bool false, .nils, .bool false, .nils], k := .struct [(0, 4, true), (4, 4, true), (8, 4, true)] } := by kernel_rfl
@[go_sem] theorem Tryz.ti44 : tiOf Tryz.prog 44 = some { size := 16, bytes := 256, agg := true, zero := some [.bool false, .nils, .bool false, .nils, .bool false, .nils, .bool false, .nils, .bool false, .nils, .bool false, .nils, .bool false, .nils, .bool false, .nils], k := .array 4 26 } := by kernel_rfl
@[go_sem] theorem Tryz.ti45 : tiOf Tryz.prog 45 = some { size := 1, bytes := 8, agg := false, zero := some [.int .i64 0], k := .int .i64 } := by kernel_rfl
@[go_sem] theorem Tryz.ti60 : tiOf Tryz.prog 60 = some { size := 1, bytes := 24, agg := false, zero := some [.nils], k := .slice 39 } := by kernel_rfl
@[go_sem] theorem Tryz.ti61 : tiOf Tryz.prog 61 = some { size := 1, bytes := 24, agg := false, zero := some [.nils], k := .slice 3 } := by kernel_rfl
@[go_sem] theorem Tryz.ti66 : tiOf Tryz.prog 66 = some { size := 1, bytes := 24, agg := false, zero := some [.nils], k := .slice 26 } := by kernel_rfl
@[go_sem] theorem Tryz.ti86 : tiOf Tryz.prog 86 = some { size := 1, bytes := 8, agg := false, zero := some [.int .u64 0], k := .int .u64 } := by kernel_rfl
@[go_sem] theorem Tryz.ti95 : tiOf Tryz.prog 95 = some { size := 1, bytes := 8, agg := false, zero := some [.raw (.pointer none)], k := .other } := by kernel_rfl
@[go_sem] theorem Tryz.ti96 : tiOf Tryz.prog 96 = some { size := 1, bytes := 1, agg := true, zero := some [.bool false], k := .struct [(0, 1, false)] } := by kernel_rfl
@[go_sem] theorem Tryz.ti97 : tiOf Tryz.prog 97 = some { size := 1, bytes := 1, agg := true, zero := some [.bool false], k := .struct [(0, 1, false)] } := by kernel_rfl
@[go_sem] theorem Tryz.ti98 : tiOf Tryz.prog 98 = some { size := 2, bytes := 16, agg := true, zero := some [.int .i64 0, .int .i64 0], k := .struct [(0, 1, false), (1, 1, false)] } := by kernel_rfl
@[go_sem] theorem Tryz.ti99 : tiOf Tryz.prog 99 = some { size := 2, bytes := 16, agg := true, zero := some [.int .i64 0, .int .i64 0], k := .struct [(0, 1, false), (1, 1, false)] } := by kernel_rfl
@[go_sem] theorem Tryz.ti118 : tiOf Tryz.prog 118 = some { size := 1, bytes := 4, agg := false, zero := some [.int .u32 0], k := .int .u32 } := by kernel_rfl
@[go_sem] theorem Tryz.ti126 : tiOf Tryz.prog 126 = some { size := 1, bytes := 24, agg := false, zero := some [.nils], k := .slice 2 } := by kernel_rfl
@[go_sem] theorem Tryz.ti138 : tiOf Tryz.prog 138 = some { size := 1, bytes := 8, agg := false, zero := some [.int .u64 0], k := .int .u64 } := by kernel_rfl
@[go_sem] theorem Tryz.ti148 : tiOf Tryz.prog 148 = some { size := 0, bytes := 0, agg := true, zero := some [], k := .array 0 16 } := by kernel_rfl
@[go_sem] theorem Tryz.ti152 : tiOf Tryz.prog 152 = some { size := 1, bytes := 1, agg := false, zero := some [.int .u8 0], k := .int .u8 } := by kernel_rfl
@[go_sem] theorem Tryz.ti153 : tiOf Tryz.prog 153 = some { size := 1, bytes := 1, agg := false, zero := some [.int .u8 0], k := .int .u8 } := by kernel_rfl
@[go_sem] theorem Tryz.ti155 : tiOf Tryz.prog 155 = some { size := 1, bytes := 8, agg := false, zero := some [.raw (.pointer none)], k := .other } := by kernel_rfl
@[go_sem] theorem Tryz.ti156 : tiOf Tryz.prog 156 = some { size := 1, bytes := 4, agg := false, zero := some [.int .i32 0], k := .int .i32 } := by kernel_rfl
@[go_sem] theorem Tryz.ti157 : tiOf Tryz.prog 157 = some { size := 1, bytes := 4, agg := false, zero := some [.int .i32 0], k := .int .i32 } := by kernel_rfl
end Go.Proofs

namespace Go.PL
open Go.RowKit

section
variable {P : Program}

theorem there_lt {σ : List Box} {id : Nat} (h : There σ id) : id < σ.length := by
  obtain ⟨b, hb, _⟩ := h
  rcases Nat.lt_or_ge id σ.length with q | q
  · exact q
  · rw [List.getElem?_eq_none q] at hb; simp at hb

theorem All2.im_of {G : GMem} {bl bl' : Nat → Nat} {L L' : Nat → Prop} {us : List Value} {l : List PE} (h : All2 (RepE G bl L) us l) (him : l.all PE.im = true) : All2 (RepE G bl' L') us l := h.of_im him

theorem retW_of_body {f : FuncId} {fn : Func} {c : Code} (hf : P.funcs[f]? = some fn) (hname : (fn.name == "runtime.NumGoroutine") = false) (hb : fn.body = some c) {off len cap sz : Nat} {rest : List PE} {cs : List PC} {md : Md} (hfz : md.fz = false)
    (hrest : rest.all PE.im = true) (hcs : cs.all PC.im = true) (T : PV → List PC → Prop)
    (h : PWp P md c { slots := (.e (.c (.msl 0 off len cap sz))) :: (rest.map .e ++ List.replicate (fn.ntmps - (rest.length + 1)) (.t [])), st := [.live cs] } fun e s => (e = .normal ∨ e = .ret) ∧ ∃ l, resAll P s fn.results.toList = some l ∧ l.all PE.im = true ∧ ∃ cs', cs'.all PC.im = true ∧ T (pack (l.map PE.norm)) cs' ∧ ∃ τ, s.st = .live cs' :: τ)
    (id : Nat) (σ : List Box) (hid : σ[id]? = some (.live cs)) : RetM P f (.c (.msl id off len cap sz) :: rest) σ fun r' σ' => ∃ cs', T r' cs' ∧ σ' = σ.set id (.live cs') := by
  refine ⟨⟨fn, hf, hname, by rw [hb]; rfl⟩, fun G bl w vs hs hvs => ?_⟩
  refine calls_of_wp hf hb ?_
  have hidl : id < σ.length := there_lt ⟨_, hid, rfl⟩
  obtain ⟨arr, e, hheap, hcells, hgn⟩ := hs.live id cs hid
  let E : Env := { w0 := w, G0 := G, bl0 := fun _ => bl id, n0 := 1 }
  have hlen : vs.size = rest.length + 1 := by have := hvs.length; simpa using this
  have hthere : ∀ j, There [Box.live cs] j → j = 0 := by
    rintro j ⟨b, hb, _⟩
    cases j with
    | zero => rfl
    | succ j => simp at hb
  have hth0 : There [Box.live cs] 0 := ⟨_, rfl, rfl⟩
  obtain ⟨v0, vt, hvl, hv0, hvt⟩ : ∃ v0 vt, vs.toList = v0 :: vt ∧ RepE G bl (There σ) v0 (.c (.msl id off len cap sz)) ∧ All2 (RepE G bl (There σ)) vt rest := by
    generalize vs.toList = l at hvs
    cases hvs with
    | cons h1 h2 => exact ⟨_, _, rfl, h1, h2⟩
  have rel : Rel E { tmps := vs ++ Array.replicate (fn.ntmps - vs.size) undef, defers := [] } w { slots := (.e (.c (.msl 0 off len cap sz))) :: (rest.map .e ++ List.replicate (fn.ntmps - (rest.length + 1)) (.t [])), st := [.live cs] } G (fun _ => bl id) := by
    refine ⟨⟨?_, rfl, ⟨hs.agree, fun j ds h => ?_, fun j ds h => ?_, fun j j' ds ds' h h' _ => ?_⟩⟩, ⟨rfl, rfl, rfl, Nat.le_refl _, fun k _ _ => rfl, GLe.refl G, fun b o u h => .inl h, fun _ _ => rfl, fun j ds hj h => ?_, Nat.le_refl _⟩⟩
    · simp only [Array.toList_append, Array.toList_replicate, hlen, hvl, List.cons_append]
      refine .cons ?_ (All2.append (All2.map_right ?_) (All2.replicate _ undef_rep))
      · obtain ⟨_, e2, e3⟩ := hv0
        exact ⟨hth0, e2, e3⟩
      · exact hvt.im_of hrest
    · cases j with
      | zero =>
        simp at h; subst h
        exact ⟨arr, e, hheap, (hcells.irep_of_im hcs).mono fun _ _ => RepC.of_irep, hgn⟩
      | succ j => simp at h
    · cases j with
      | zero => simp at h
      | succ j => simp at h
    · have h1 := hthere j ⟨_, h, rfl⟩
      have h2 := hthere j' ⟨_, h', rfl⟩
      rw [h1, h2]
    · have h1 := hthere j ⟨_, h, rfl⟩
      have hj' : 1 ≤ j := hj
      omega
  refine wp_mono (h E _ w G (fun _ => bl id) (fun q => by rw [hfz] at q; cases q) rel) fun e' a' w' hp => ?_
  obtain ⟨s', G', bl', ⟨he, l, hl, him, cs', hcs', hT, τ, hτ⟩, rel'⟩ := hp
  obtain ⟨us, g1, g2⟩ := run_results rel' hl
  have g3 := run_results' g1
  have hx := rel'.ext
  have hb0 : bl' 0 = bl id := hx.same 0 (by show 0 < 1; omega)
  have hlive := rel'.rel.st.live 0 cs' (by rw [hτ]; rfl)
  obtain ⟨arr', e2, hheap', hcells', hgn'⟩ := hlive
  rw [hb0] at hheap' hgn'
  have gnone : ∀ b, b < w.heap.size → (∀ o, G b o = none) → ∀ o, G' b o = none := fun b hb hg o => by
    cases hgo : G' b o with
    | none => rfl
    | some u =>
      rcases hx.gnew b o u hgo with q | q
      · have q' : G b o = some u := q
        rw [hg o] at q'; simp at q'
      · exact absurd hb (Nat.not_lt.2 q)
  have hrel : RelS G' bl w' (σ.set id (.live cs')) := by
    refine ⟨rel'.rel.st.agree, fun j ds hj => ?_, fun j ds hj => ?_, fun j j' ds ds' hj hj' hbb => ?_⟩
    · by_cases hji : id = j
      · subst hji
        rw [List.getElem?_set_self hidl, Option.some.injEq, Box.live.injEq] at hj
        subst hj
        exact ⟨arr', e2, hheap', (hcells'.irep_of_im hcs').mono fun _ _ => RepC.of_irep, hgn'⟩
      · rw [List.getElem?_set_ne hji] at hj
        obtain ⟨arr1, e1, k1, k2, k3⟩ := hs.live j ds hj
        have hlt := heap_lt k1
        refine ⟨arr1, e1, ?_, ?_, gnone _ hlt k3⟩
        · rw [hx.block (bl j) hlt fun i hi hh => hji (hs.inj id j cs ds hid hj hh)]; exact k1
        · exact k2.mono fun u p => RepC.mono hx.gle (fun _ _ => rfl) fun i hi => there_set hidl hi
    · by_cases hji : id = j
      · subst hji
        rw [List.getElem?_set_self hidl, Option.some.injEq] at hj
        cases hj
      · rw [List.getElem?_set_ne hji] at hj
        obtain ⟨us1, k1, k2⟩ := hs.frz j ds hj
        exact ⟨us1, fun i hi => hx.gle _ _ _ (k1 i hi), fun i hi => IRep.mono hx.gle (k2 i hi)⟩
    · have back : ∀ {i : Nat} {xs : List PC}, (σ.set id (.live cs'))[i]? = some (.live xs) → ∃ ys, σ[i]? = some (.live ys) := fun {i xs} hi => by
        by_cases hii : id = i
        · subst hii; exact ⟨cs, hid⟩
        · rw [List.getElem?_set_ne hii] at hi; exact ⟨xs, hi⟩
      obtain ⟨y1, q1⟩ := back hj
      obtain ⟨y2, q2⟩ := back hj'
      exact hs.inj j j' y1 y2 q1 q2 hbb
  have fin : ∃ v, (results fn a'.tmps).run P w' = .ok v w' ∧ ∃ v' r' σ' G'' bl'', Ending.returned v = .returned v' ∧ (∃ ds, T r' ds ∧ σ' = σ.set id (.live ds)) ∧ RepV G'' bl'' (There σ') v' r' ∧ RelS G'' bl'' w' σ' ∧ (∀ j, There σ j → There σ' j) ∧ σ.length ≤ σ'.length ∧
      (∀ j, j < σ.length → bl'' j = bl j) ∧ (∀ j ds, σ.length ≤ j → σ'[j]? = some (.live ds) → w.heap.size ≤ bl'' j) ∧ (∀ j ds, σ'[j]? = some (.live ds) → j < σ.length → ∃ ds', σ[j]? = some (.live ds')) ∧
      GLe G G'' ∧ (∀ b o u, G'' b o = some u → G b o = some u ∨ w.heap.size ≤ b) ∧ w'.os = w.os ∧ w'.tape = w.tape ∧ w'.output = w.output ∧ w.heap.size ≤ w'.heap.size ∧
      ∀ k, k < w.heap.size → (∀ j ds, σ[j]? = some (.live ds) → bl j ≠ k) → w'.heap[k]? = w.heap[k]? := by
    refine ⟨_, g3, packV us, pack (l.map PE.norm), _, G', bl, rfl, ⟨_, hT, rfl⟩, ?_, hrel, fun j hj => there_set hidl hj, by simp, fun _ _ => rfl, fun j ds hj h2 => ?_, fun j ds hj _ => ?_, hx.gle, hx.gnew, hx.os, hx.tape, hx.output, hx.size, fun k hk hh => ?_⟩
    · exact pack_rep (All2.normE (g2.of_im him))
    · have := there_lt (σ := σ.set id (.live cs')) ⟨_, h2, rfl⟩
      simp at this; omega
    · by_cases hji : id = j
      · subst hji; exact ⟨cs, hid⟩
      · rw [List.getElem?_set_ne hji] at hj; exact ⟨ds, hj⟩
    · exact hx.block k hk fun i hi => hh id cs hid
  rcases he with rfl | rfl
  · exact ⟨rel'.rel.defers, fin⟩
  · exact ⟨rel'.rel.defers, fin⟩

theorem own_of_body {f : FuncId} {fn : Func} {c : Code} (hf : P.funcs[f]? = some fn) (hname : (fn.name == "runtime.NumGoroutine") = false) (hb : fn.body = some c) {args : List PE} {off n cap sz : Nat} {cs : List PC} {md : Md}
    (hargs : args.all PE.im = true) (hcs : cs.all PC.im = true)
    (h : PWp P md c { slots := args.map .e ++ List.replicate (fn.ntmps - args.length) (.t []), st := [] } fun e s => (e = .normal ∨ e = .ret) ∧ ∃ id, resAll P s fn.results.toList = some [.c (.msl id off n cap sz)] ∧ s.st[id]? = some (.live cs))
    (σ : List Box) : RetM P f args σ fun r' σ' => r' = .e (.c (.msl σ.length off n cap sz)) ∧ σ' = σ ++ [.live cs] := by
  refine ⟨⟨fn, hf, hname, by rw [hb]; rfl⟩, fun G bl w vs hs hvs => ?_⟩
  refine calls_of_wp hf hb ?_
  let E : Env := { w0 := w, G0 := G, bl0 := fun _ => 0, n0 := 0 }
  have hlen : vs.size = args.length := by have := hvs.length; simpa using this
  have rel : Rel E { tmps := vs ++ Array.replicate (fn.ntmps - vs.size) undef, defers := [] } w { slots := args.map .e ++ List.replicate (fn.ntmps - args.length) (.t []), st := [] } G (fun _ => 0) := by
    refine ⟨⟨?_, rfl, ⟨hs.agree, fun id cs h => by simp at h, fun id cs h => by simp at h, fun id id' cs cs' h => by simp at h⟩⟩, ⟨rfl, rfl, rfl, Nat.le_refl _, fun k _ _ => rfl, GLe.refl G, fun b o u h => .inl h, fun _ _ => rfl, fun id cs _ h => by simp at h, Nat.le_refl _⟩⟩
    simp only [Array.toList_append, Array.toList_replicate, hlen]
    exact All2.append (All2.map_right (hvs.of_im hargs)) (All2.replicate _ undef_rep)
  refine wp_mono (h E _ w G (fun _ => 0) (fun _ => rfl) rel) fun e' a' w' hp => ?_
  obtain ⟨s', G', bl', ⟨he, id, hl, hid⟩, rel'⟩ := hp
  obtain ⟨us, g1, g2⟩ := run_results rel' hl
  have g3 := run_results' g1
  have hx := rel'.ext
  obtain ⟨arr, e, hheap, hcells, hgn⟩ := rel'.rel.st.live id cs hid
  have hfresh : w.heap.size ≤ bl' id := hx.fresh id cs (Nat.zero_le _) hid
  have hsame : ∀ k, k < w.heap.size → w'.heap[k]? = w.heap[k]? := fun k hk => hx.block k hk fun i hi => absurd hi (Nat.not_lt_zero _)
  obtain ⟨u, rfl, hu⟩ : ∃ u, us = [u] ∧ RepE G' bl' (There s'.st) u (.c (.msl id off n cap sz)) := by
    cases g2 with
    | cons h1 h2 => cases h2; exact ⟨_, rfl, h1⟩
  obtain ⟨_, hu2, hu3⟩ := hu
  have gnone : ∀ b, b < w.heap.size → (∀ o, G b o = none) → ∀ o, G' b o = none := fun b hb hg o => by
    cases hgo : G' b o with
    | none => rfl
    | some u =>
      rcases hx.gnew b o u hgo with q | q
      · have q' : G b o = some u := q
        rw [hg o] at q'; simp at q'
      · exact absurd hb (Nat.not_lt.2 q)
  have old : ∀ {j : Nat} {b : Box}, j < σ.length → (σ ++ [Box.live cs])[j]? = some b → σ[j]? = some b := fun {j b} hj h => by rw [List.getElem?_append_left hj] at h; exact h
  have th : ∀ j, There σ j → There (σ ++ [Box.live cs]) j := fun j hj => by
    have hlt := there_lt hj
    obtain ⟨b, hb, ht⟩ := hj
    exact ⟨b, by rw [List.getElem?_append_left hlt]; exact hb, ht⟩
  let bl2 : Nat → Nat := fun j => if j = σ.length then bl' id else bl j
  have bl2lt : ∀ j, j < σ.length → bl2 j = bl j := fun j hj => if_neg (by omega)
  have bl2n : bl2 σ.length = bl' id := if_pos rfl
  have hcase : ∀ {j : Nat} {b : Box}, (σ ++ [Box.live cs])[j]? = some b → (j < σ.length ∧ σ[j]? = some b) ∨ (j = σ.length ∧ b = .live cs) := fun {j b} h => by
    rcases Nat.lt_or_ge j σ.length with q | q
    · exact .inl ⟨q, old q h⟩
    · have := there_lt (σ := σ ++ [Box.live cs]) (id := j)
      have hj : j < (σ ++ [Box.live cs]).length := by
        rcases Nat.lt_or_ge j (σ ++ [Box.live cs]).length with q | q
        · exact q
        · rw [List.getElem?_eq_none q] at h; simp at h
      simp at hj
      have : j = σ.length := by omega
      subst this
      simp at h
      exact .inr ⟨rfl, h.symm⟩
  have hrel : RelS G' bl2 w' (σ ++ [.live cs]) := by
    refine ⟨rel'.rel.st.agree, fun j ds hj => ?_, fun j ds hj => ?_, fun j j' ds ds' hj hj' hbb => ?_⟩
    · rcases hcase hj with ⟨q, hj⟩ | ⟨rfl, hq⟩
      · obtain ⟨arr1, e1, k1, k2, k3⟩ := hs.live j ds hj
        have hlt := heap_lt k1
        rw [bl2lt j q]
        refine ⟨arr1, e1, by rw [hsame _ hlt]; exact k1, ?_, gnone _ hlt k3⟩
        exact k2.mono fun u p => RepC.mono hx.gle (fun i hi => bl2lt i (there_lt hi)) th
      · simp only [Box.live.injEq] at hq
        subst hq
        rw [bl2n]
        exact ⟨arr, e, hheap, (hcells.irep_of_im hcs).mono fun _ _ => RepC.of_irep, hgn⟩
    · rcases hcase hj with ⟨q, hj⟩ | ⟨rfl, hq⟩
      · obtain ⟨us1, k1, k2⟩ := hs.frz j ds hj
        exact ⟨us1, by rw [bl2lt j q]; exact fun i hi => hx.gle _ _ _ (k1 i hi), fun i hi => IRep.mono hx.gle (k2 i hi)⟩
      · cases hq
    · rcases hcase hj with ⟨q, hj⟩ | ⟨rfl, hq⟩ <;> rcases hcase hj' with ⟨q', hj'⟩ | ⟨rfl, hq'⟩
      · rw [bl2lt j q, bl2lt j' q'] at hbb
        exact hs.inj j j' ds ds' hj hj' hbb
      · rw [bl2lt j q, bl2n] at hbb
        obtain ⟨_, _, k1, _, _⟩ := hs.live j ds hj
        have := heap_lt k1
        omega
      · rw [bl2lt j' q', bl2n] at hbb
        obtain ⟨_, _, k1, _, _⟩ := hs.live j' ds' hj'
        have := heap_lt k1
        omega
      · rfl
  have fin : ∃ v, (results fn a'.tmps).run P w' = .ok v w' ∧ ∃ v' r' σ' G'' bl'', Ending.returned v = .returned v' ∧ (r' = .e (.c (.msl σ.length off n cap sz)) ∧ σ' = σ ++ [.live cs]) ∧ RepV G'' bl'' (There σ') v' r' ∧ RelS G'' bl'' w' σ' ∧ (∀ j, There σ j → There σ' j) ∧ σ.length ≤ σ'.length ∧
      (∀ j, j < σ.length → bl'' j = bl j) ∧ (∀ j ds, σ.length ≤ j → σ'[j]? = some (.live ds) → w.heap.size ≤ bl'' j) ∧ (∀ j ds, σ'[j]? = some (.live ds) → j < σ.length → ∃ ds', σ[j]? = some (.live ds')) ∧
      GLe G G'' ∧ (∀ b o u, G'' b o = some u → G b o = some u ∨ w.heap.size ≤ b) ∧ w'.os = w.os ∧ w'.tape = w.tape ∧ w'.output = w.output ∧ w.heap.size ≤ w'.heap.size ∧
      ∀ k, k < w.heap.size → (∀ j ds, σ[j]? = some (.live ds) → bl j ≠ k) → w'.heap[k]? = w.heap[k]? := by
    refine ⟨_, g3, packV [u], _, _, G', bl2, rfl, ⟨rfl, rfl⟩, ?_, hrel, th, by simp, bl2lt, fun j ds hj h2 => ?_, fun j ds hj hlt => ⟨ds, old hlt hj⟩, hx.gle, hx.gnew, hx.os, hx.tape, hx.output, hx.size, fun k hk _ => hsame k hk⟩
    · refine ⟨⟨.live cs, by simp, rfl⟩, ?_, hu3⟩
      rw [bl2n]; exact hu2
    · rcases hcase h2 with ⟨q, _⟩ | ⟨rfl, _⟩
      · omega
      · rw [bl2n]; exact hfresh
  rcases he with rfl | rfl
  · exact ⟨rel'.rel.defers, fin⟩
  · exact ⟨rel'.rel.defers, fin⟩

theorem pwp_loopS {md : Md} {s : St} {Q : Exit → St → Prop} {c : Code} (m : List Bool) (I : Nat → St → Prop) {n : Nat} (h0 : I n { s with slots := keep m s.slots }) (hc : m.length = s.slots.length)
    (round : ∀ n s, I n s → PWp P md c s (thenS (fun s' => ∃ k, k < n ∧ I k { s' with slots := keep m s'.slots } ∧ m.length = s'.slots.length) Q)) : PWp P md (.loop c) s Q := by
  have relf : ∀ {E : Env} {a : Act} {w : World} {s : St} {G : GMem} {bl : Nat → Nat}, m.length = s.slots.length → Rel E a w s G bl → Rel E a w { s with slots := keep m s.slots } G bl := by
    clear h0 hc round
    intro E a w s G bl h1 rel
    refine ⟨⟨?_, rel.rel.defers, rel.rel.st⟩, rel.ext⟩
    have := rel.rel.slots
    clear rel
    generalize a.tmps.toList = l at this
    simp only
    generalize s.slots = sl at this h1
    induction this generalizing m with
    | nil => cases m with | nil => exact .nil | cons => simp at h1
    | cons hh _ ih =>
      cases m with
      | nil => simp at h1
      | cons b m =>
        simp only [keep]
        refine .cons ?_ (ih m (by simpa using h1))
        cases b with
        | true => exact hh
        | false => trivial
  refine pwp_weaken (s' := { s with slots := keep m s.slots }) (fun E a w G bl hz' rel => ⟨G, relf hc rel⟩) ?_
  intro E a w G bl hz' rel
  refine wp_loopN (fun n a w => ∃ s G bl, I n s ∧ Rel E a w s G bl) (fun n a w hI => ?_) ⟨_, G, bl, h0, rel⟩
  obtain ⟨s1, G1, bl1, hi, rel1⟩ := hI
  refine wp_mono (round n s1 hi E a w G1 bl1 hz' rel1) fun e a' w' hp => ?_
  obtain ⟨s', G', bl', hk, r⟩ := hp
  cases e with
  | normal => obtain ⟨k, hm, hk, hok⟩ := hk; exact ⟨k, hm, _, G', bl', hk, relf hok r⟩
  | _ => exact ⟨s', G', bl', hk, r⟩

end
end Go.PL

namespace Go.PL
open Go.RowKit

def sw (i j k : Nat) : Nat := if k = i then j else if k = j then i else k
theorem sw_sw (i j k : Nat) : sw i j (sw i j k) = k := by
  unfold sw; repeat' split
  all_goals omega
def PC.ren (f : Nat → Nat) : PC → PC
  | .ptr id off => .ptr (f id) off
  | .msl id off len cap sz => .msl (f id) off len cap sz
  | .clo g ps => .clo g (ps.map fun p => (f p.1, p.2))
  | p => p
def PE.ren (f : Nat → Nat) : PE → PE
  | .c p => .c (p.ren f)
  | .a cs => .a (cs.map (PC.ren f))
def PV.ren (f : Nat → Nat) : PV → PV
  | .e x => .e (x.ren f)
  | .t xs => .t (xs.map (PE.ren f))
  | .j => .j
def Box.ren (f : Nat → Nat) : Box → Box
  | .live cs => .live (cs.map (PC.ren f))
  | b => b
def swapL (l : List Box) (i j : Nat) : List Box := (l.set i (l.getD j .gone)).set j (l.getD i .gone)
def St.swap (s : St) (i j : Nat) : St := { slots := s.slots.map (PV.ren (sw i j)), st := (swapL s.st i j).map (Box.ren (sw i j)) }

theorem swapL_get {l : List Box} {i j : Nat} (hi : i < l.length) (hj : j < l.length) (k : Nat) : (swapL l i j)[k]? = l[sw i j k]? := by
  unfold swapL sw
  by_cases hkj : j = k
  · subst hkj
    rw [List.getElem?_set_self (by simpa using hj)]
    by_cases hji : j = i
    · subst hji; simp [hi]
    · simp [hji, hi]
  · rw [List.getElem?_set_ne hkj]
    by_cases hki : i = k
    · subst hki
      rw [List.getElem?_set_self hi]
      simp [hj]
    · rw [List.getElem?_set_ne hki, if_neg (fun h => hki h.symm), if_neg (fun h => hkj h.symm)]

section
variable {P : Program} {md : Md} {s : St} {Q : Exit → St → Prop}

theorem swap_there {σ : List Box} {i j : Nat} (hi : i < σ.length) (hj : j < σ.length) {k : Nat} (h : There σ k) : There ((swapL σ i j).map (Box.ren (sw i j))) (sw i j k) := by
  obtain ⟨b, hb, ht⟩ := h
  refine ⟨b.ren (sw i j), ?_, by cases b <;> first | rfl | exact ht⟩
  rw [List.getElem?_map, swapL_get hi hj, sw_sw, hb]; rfl
theorem RepC.swap {G : GMem} {bl : Nat → Nat} {σ : List Box} {i j : Nat} (hi : i < σ.length) (hj : j < σ.length) {v : Value} {p : PC} (h : RepC G bl (There σ) v p) :
    RepC G (fun k => bl (sw i j k)) (There ((swapL σ i j).map (Box.ren (sw i j)))) v (p.ren (sw i j)) := by
  cases p with
  | ptr id off => obtain ⟨h1, rfl⟩ := h; exact ⟨swap_there hi hj h1, by simp only [sw_sw]⟩
  | msl id off len cap sz => obtain ⟨h1, rfl, h3⟩ := h; exact ⟨swap_there hi hj h1, by simp only [sw_sw], h3⟩
  | clo f ps =>
    obtain ⟨arr, rfl, h2, h3⟩ := h
    refine ⟨arr, rfl, ?_, fun p hp => ?_⟩
    · rw [h2, List.map_map]
      exact List.map_congr_left fun p _ => by simp [sw_sw]
    · obtain ⟨q, hq, rfl⟩ := List.mem_map.1 hp
      exact swap_there hi hj (h3 q hq)
  | _ => exact h
theorem RepE.swap {G : GMem} {bl : Nat → Nat} {σ : List Box} {i j : Nat} (hi : i < σ.length) (hj : j < σ.length) {v : Value} {p : PE} (h : RepE G bl (There σ) v p) :
    RepE G (fun k => bl (sw i j k)) (There ((swapL σ i j).map (Box.ren (sw i j)))) v (p.ren (sw i j)) := by
  cases p with
  | c p => exact RepC.swap hi hj h
  | a cs => obtain ⟨arr, h1, h2⟩ := h; exact ⟨arr, h1, All2.map_right (h2.mono fun _ _ => RepC.swap hi hj)⟩
theorem RepV.swap {G : GMem} {bl : Nat → Nat} {σ : List Box} {i j : Nat} (hi : i < σ.length) (hj : j < σ.length) {v : Value} {p : PV} (h : RepV G bl (There σ) v p) :
    RepV G (fun k => bl (sw i j k)) (There ((swapL σ i j).map (Box.ren (sw i j)))) v (p.ren (sw i j)) := by
  cases p with
  | e x => exact RepE.swap hi hj h
  | t xs => obtain ⟨arr, h1, h2⟩ := h; exact ⟨arr, h1, All2.map_right (h2.mono fun _ _ => RepE.swap hi hj)⟩
  | j => trivial

theorem pwp_swap {c : Code} (i j : Nat) (hz : md.fz = true) (hi : i < s.st.length) (hj : j < s.st.length) (h : PWp P md c (s.swap i j) Q) : PWp P md c s Q := by
  intro E a w G bl hz' rel
  refine h E a w G (fun k => bl (sw i j k)) hz' ?_
  have h0 := hz' hz
  have live : ∀ {k : Nat} {cs : List PC}, (s.swap i j).st[k]? = some (.live cs) → ∃ cs', s.st[sw i j k]? = some (.live cs') ∧ cs = cs'.map (PC.ren (sw i j)) := fun {k cs} hk => by
    simp only [St.swap, List.getElem?_map, swapL_get hi hj] at hk
    cases hb : s.st[sw i j k]? with
    | none => rw [hb] at hk; simp at hk
    | some b =>
      rw [hb] at hk
      cases b with
      | live cs' => simp [Box.ren] at hk; exact ⟨cs', rfl, hk.symm⟩
      | gone => simp [Box.ren] at hk
      | frz _ => simp [Box.ren] at hk
  refine ⟨⟨?_, rel.rel.defers, ⟨rel.rel.st.agree, fun k cs hk => ?_, fun k cs hk => ?_, fun k k' cs cs' hk hk' hbb => ?_⟩⟩, ?_⟩
  · exact All2.map_right (rel.rel.slots.mono fun _ _ => RepV.swap hi hj)
  · obtain ⟨cs', hk', rfl⟩ := live hk
    obtain ⟨arr, e, h1, h2, h3⟩ := rel.rel.st.live _ _ hk'
    exact ⟨arr, e, h1, All2.map_right (h2.mono fun _ _ => RepC.swap hi hj), h3⟩
  · simp only [St.swap, List.getElem?_map, swapL_get hi hj] at hk
    cases hb : s.st[sw i j k]? with
    | none => rw [hb] at hk; simp at hk
    | some b =>
      rw [hb] at hk
      cases b with
      | live cs' => simp [Box.ren] at hk
      | gone => simp [Box.ren] at hk
      | frz cs' => simp [Box.ren] at hk; subst hk; exact rel.rel.st.frz _ _ hb
  · obtain ⟨c1, q1, _⟩ := live hk
    obtain ⟨c2, q2, _⟩ := live hk'
    have := rel.rel.st.inj _ _ _ _ q1 q2 hbb
    have e1 := sw_sw i j k
    have e2 := sw_sw i j k'
    rw [← e1, ← e2, this]
  · have hx := rel.ext
    refine ⟨hx.os, hx.tape, hx.output, hx.size, hx.block, hx.gle, hx.gnew, fun id hid => by omega, fun k cs _ hk => ?_, by rw [h0]; exact Nat.zero_le _⟩
    obtain ⟨c1, q1, _⟩ := live hk
    exact hx.fresh _ _ (by omega) q1
def PV.imm (σ : List Box) : PV → PV
  | .e x => .e (immE σ x)
  | .t xs => .t (xs.map (immE σ))
  | .j => .j
def Box.imm (σ : List Box) : Box → Box
  | .live cs => .live (cs.map (immC σ))
  | b => b
theorem imm_there {σ : List Box} {id : Nat} (h : There σ id) : There (σ.map (Box.imm σ)) id := by
  obtain ⟨b, hb, ht⟩ := h
  refine ⟨b.imm σ, ?_, by cases b <;> first | rfl | exact ht⟩
  rw [List.getElem?_map, hb]; rfl
theorem pwp_imm {c : Code} (h : PWp P md c { slots := s.slots.map (PV.imm s.st), st := s.st.map (Box.imm s.st) } Q) : PWp P md c s Q := by
  refine pwp_weaken (s' := { slots := s.slots.map (PV.imm s.st), st := s.st.map (Box.imm s.st) }) (fun E a w G bl _ rel => ⟨G, ?_⟩) h
  have hm : ∀ (u : Value) (p : PC), RepC G bl (There s.st) u p → RepC G bl (There (s.st.map (Box.imm s.st))) u p := fun u p => RepC.mono (GLe.refl G) (fun _ _ => rfl) (fun _ => imm_there)
  have live : ∀ {k : Nat} {cs : List PC}, (s.st.map (Box.imm s.st))[k]? = some (.live cs) → ∃ cs', s.st[k]? = some (.live cs') ∧ cs = cs'.map (immC s.st) := fun {k cs} hk => by
    rw [List.getElem?_map] at hk
    cases hb : s.st[k]? with
    | none => rw [hb] at hk; simp at hk
    | some b =>
      rw [hb] at hk
      cases b with
      | live cs' => simp [Box.imm] at hk; exact ⟨cs', rfl, hk.symm⟩
      | gone => simp [Box.imm] at hk
      | frz _ => simp [Box.imm] at hk
  refine ⟨⟨?_, rel.rel.defers, ⟨rel.rel.st.agree, fun k cs hk => ?_, fun k cs hk => ?_, fun k k' cs cs' hk hk' hbb => ?_⟩⟩, ?_⟩
  · refine All2.map_right (rel.rel.slots.mono fun u p hu => ?_)
    cases p with
    | e x => exact RepE.mono (GLe.refl G) (fun _ _ => rfl) (fun _ => imm_there) (rel.rel.st.immE hu)
    | t xs => obtain ⟨arr, h1, h2⟩ := hu; exact ⟨arr, h1, (rel.rel.st.immL h2).mono fun _ _ => RepE.mono (GLe.refl G) (fun _ _ => rfl) (fun _ => imm_there)⟩
    | j => trivial
  · obtain ⟨cs', hk', rfl⟩ := live hk
    obtain ⟨arr, e, h1, h2, h3⟩ := rel.rel.st.live _ _ hk'
    exact ⟨arr, e, h1, (rel.rel.st.immCs h2).mono hm, h3⟩
  · rw [List.getElem?_map] at hk
    cases hb : s.st[k]? with
    | none => rw [hb] at hk; simp at hk
    | some b =>
      rw [hb] at hk
      cases b with
      | live cs' => simp [Box.imm] at hk
      | gone => simp [Box.imm] at hk
      | frz cs' => simp [Box.imm] at hk; subst hk; exact rel.rel.st.frz _ _ hb
  · obtain ⟨c1, q1, _⟩ := live hk
    obtain ⟨c2, q2, _⟩ := live hk'
    exact rel.rel.st.inj _ _ _ _ q1 q2 hbb
  · have hx := rel.ext
    refine ⟨hx.os, hx.tape, hx.output, hx.size, hx.block, hx.gle, hx.gnew, hx.same, fun k cs hn hk => ?_, by simpa using hx.len⟩
    obtain ⟨c1, q1, _⟩ := live hk
    exact hx.fresh _ _ hn q1
theorem pwp_norm {c : Code} (h : PWp P md c { s with slots := s.slots.map PV.norm } Q) : PWp P md c s Q :=
  pwp_weaken (s' := { s with slots := s.slots.map PV.norm }) (fun E a w G bl _ rel => ⟨G, ⟨⟨All2.map_right (rel.rel.slots.mono fun _ _ => RepV.norm), rel.rel.defers, rel.rel.st⟩, rel.ext⟩⟩) h
end
end Go.PL

namespace Go.PL

def BS : Nat := 1000000000
theorem BS_eq : BS = 1000000000 := rfl

def val : List Nat → Nat
  | [] => 0
  | x :: l => x + BS * val l
def fl : Nat → Nat → List Nat
  | 0, _ => []
  | k + 1, n => n % BS :: fl k (n / BS)
def Dig (l : List Nat) : Prop := ∀ x ∈ l, x < BS
def limbs (n : Nat) : List Nat := if _h : n = 0 then [] else n % BS :: limbs (n / BS)
termination_by n
decreasing_by exact Nat.div_lt_self (Nat.pos_of_ne_zero _h) (by decide)

theorem Dig.nil : Dig [] := by intro x h; simp at h
theorem Dig.cons {x : Nat} {l : List Nat} (hx : x < BS) (h : Dig l) : Dig (x :: l) := by
  intro y hy
  rcases List.mem_cons.1 hy with rfl | q
  · exact hx
  · exact h y q
theorem Dig.tail {x : Nat} {l : List Nat} (h : Dig (x :: l)) : Dig l := fun y hy => h y (by simp [hy])
theorem Dig.head {x : Nat} {l : List Nat} (h : Dig (x :: l)) : x < BS := h x (by simp)
theorem Dig.append {l m : List Nat} (h : Dig l) (h' : Dig m) : Dig (l ++ m) := by
  intro x hx
  rcases List.mem_append.1 hx with q | q
  · exact h x q
  · exact h' x q
theorem Dig.take {l : List Nat} (h : Dig l) (n : Nat) : Dig (l.take n) := fun x hx => h x (List.mem_of_mem_take hx)
theorem Dig.drop {l : List Nat} (h : Dig l) (n : Nat) : Dig (l.drop n) := fun x hx => h x (List.mem_of_mem_drop hx)
theorem Dig.get {l : List Nat} (h : Dig l) {i : Nat} (hi : i < l.length) : l[i] < BS := h _ (List.getElem_mem hi)

@[simp] theorem fl_length (k n : Nat) : (fl k n).length = k := by
  induction k generalizing n with
  | zero => rfl
  | succ k ih => simp [fl, ih]
theorem fl_dig (k n : Nat) : Dig (fl k n) := by
  induction k generalizing n with
  | zero => exact Dig.nil
  | succ k ih => exact Dig.cons (Nat.mod_lt _ (by decide)) (ih _)
theorem fl_val {l : List Nat} (h : Dig l) : fl l.length (val l) = l := by
  induction l with
  | nil => rfl
  | cons x l ih =>
    have hx := h.head
    have e1 : (x + BS * val l) % BS = x := by rw [Nat.add_mul_mod_self_left, Nat.mod_eq_of_lt hx]
    have e2 : (x + BS * val l) / BS = val l := by rw [Nat.add_mul_div_left _ _ (by decide), Nat.div_eq_of_lt hx, Nat.zero_add]
    simp only [List.length_cons, fl, val, e1, e2, ih h.tail]
theorem val_fl (k n : Nat) : val (fl k n) = n % BS ^ k := by
  induction k generalizing n with
  | zero => simp [fl, val, Nat.mod_one]
  | succ k ih =>
    simp only [fl, val, ih]
    rw [Nat.pow_succ, Nat.mul_comm (BS ^ k) BS, Nat.mod_mul]
theorem val_lt {l : List Nat} (h : Dig l) : val l < BS ^ l.length := by
  induction l with
  | nil => simp [val]
  | cons x l ih =>
    have h1 := ih h.tail
    have hx := h.head
    simp only [val, List.length_cons, Nat.pow_succ]
    have := Nat.mul_le_mul_left BS (Nat.succ_le_of_lt h1)
    rw [Nat.mul_comm (BS ^ l.length) BS]
    rw [Nat.mul_succ] at this
    omega
theorem val_append (l m : List Nat) : val (l ++ m) = val l + BS ^ l.length * val m := by
  induction l with
  | nil => simp [val]
  | cons x l ih =>
    simp only [List.cons_append, val, ih, List.length_cons, Nat.pow_succ, Nat.mul_add]
    rw [← Nat.add_assoc, Nat.mul_comm (BS ^ l.length) BS, Nat.mul_assoc]
theorem limbs_zero : limbs 0 = [] := by rw [limbs]; simp
theorem limbs_pos {n : Nat} (h : n ≠ 0) : limbs n = n % BS :: limbs (n / BS) := by rw [limbs]; simp [h]
theorem limbs_dig (n : Nat) : Dig (limbs n) := by
  induction n using Nat.strongRecOn with
  | _ n ih =>
    by_cases h : n = 0
    · rw [h, limbs_zero]; exact Dig.nil
    · rw [limbs_pos h]; exact Dig.cons (Nat.mod_lt _ (by decide)) (ih _ (Nat.div_lt_self (Nat.pos_of_ne_zero h) (by decide)))
theorem limbs_val (n : Nat) : val (limbs n) = n := by
  induction n using Nat.strongRecOn with
  | _ n ih =>
    by_cases h : n = 0
    · rw [h, limbs_zero]; rfl
    · rw [limbs_pos h, val, ih _ (Nat.div_lt_self (Nat.pos_of_ne_zero h) (by decide)), Nat.mod_add_div]
theorem limbs_eq_nil {n : Nat} : limbs n = [] ↔ n = 0 := by
  constructor
  · intro h; have := limbs_val n; rw [h] at this; exact this.symm
  · rintro rfl; exact limbs_zero
theorem limbs_len {n k : Nat} (h : n < BS ^ k) : (limbs n).length ≤ k := by
  induction k generalizing n with
  | zero => simp at h; rw [h, limbs_zero]; simp
  | succ k ih =>
    by_cases hn : n = 0
    · rw [hn, limbs_zero]; simp
    · rw [limbs_pos hn]
      have : n / BS < BS ^ k := Nat.div_lt_of_lt_mul (by rw [Nat.mul_comm, ← Nat.pow_succ]; exact h)
      have := ih this
      simp; omega
def Nrm (l : List Nat) : Prop := Dig l ∧ l.getLast? ≠ some 0
theorem limbs_last {n : Nat} : (limbs n).getLast? ≠ some 0 := by
  induction n using Nat.strongRecOn with
  | _ n ih =>
    by_cases h : n = 0
    · rw [h, limbs_zero]; simp
    · rw [limbs_pos h]
      by_cases h2 : n / BS = 0
      · rw [h2, limbs_zero]
        simp
        have : n < BS := by
          rcases Nat.lt_or_ge n BS with q | q
          · exact q
          · have := Nat.div_pos q (by decide); omega
        rw [Nat.mod_eq_of_lt this]; exact h
      · have := ih (n / BS) (Nat.div_lt_self (Nat.pos_of_ne_zero h) (by decide : 1 < BS))
        have hne : limbs (n / BS) ≠ [] := fun e => h2 (limbs_eq_nil.1 e)
        rw [List.getLast?_cons_of_ne_nil hne]
        exact this
theorem val_zero {l : List Nat} (h : Nrm l) (hv : val l = 0) : l = [] := by
  cases l with
  | nil => rfl
  | cons x l =>
    exfalso
    have key : ∀ (l : List Nat), Dig l → val l = 0 → ∀ x ∈ l, x = 0 := by
      intro l
      induction l with
      | nil => intro _ _ x hx; simp at hx
      | cons y l ih =>
        intro hd hv x hx
        simp only [val] at hv
        have hy : y = 0 := by omega
        have hl : val l = 0 := by
          have : BS * val l = 0 := by omega
          rcases Nat.mul_eq_zero.1 this with q | q
          · exact absurd q (by decide)
          · exact q
        rcases List.mem_cons.1 hx with rfl | q
        · exact hy
        · exact ih hd.tail hl x q
    have hlast := List.getLast?_eq_some_getLast (l := x :: l) (by simp)
    have := key (x :: l) h.1 hv _ (List.getLast_mem (by simp : x :: l ≠ []))
    rw [this] at hlast
    exact h.2 hlast
theorem limbs_of {l : List Nat} (h : Nrm l) : limbs (val l) = l := by
  induction l with
  | nil => exact limbs_zero
  | cons x l ih =>
    have hx := h.1.head
    by_cases hl : l = []
    · subst hl
      have : x ≠ 0 := by rintro rfl; exact h.2 rfl
      have e : val [x] = x := by simp [val]
      rw [e, limbs_pos this, Nat.mod_eq_of_lt hx, Nat.div_eq_of_lt hx, limbs_zero]
    · have hn : Nrm l := ⟨h.1.tail, by have := h.2; rw [List.getLast?_cons_of_ne_nil hl] at this; exact this⟩
      have hv : val l ≠ 0 := fun q => hl (val_zero hn q)
      have hpos : x + BS * val l ≠ 0 := by
        have := Nat.mul_pos (show 0 < BS by decide) (Nat.pos_of_ne_zero hv)
        omega
      simp only [val]
      rw [limbs_pos hpos, Nat.add_mul_mod_self_left, Nat.mod_eq_of_lt hx, Nat.add_mul_div_left _ _ (by decide), Nat.div_eq_of_lt hx, Nat.zero_add, ih hn]

def lC (l : List Nat) : PC := .sl l.length (l.map fun (x : Nat) => .int .u32 (x : Int))
def intC (z : Int) : List PC := [.bool (decide (z < 0)), lC (limbs z.natAbs)]
def ratC (q : Rat) : List PC := intC q.num ++ intC q.den

@[simp] theorem intC_length (z : Int) : (intC z).length = 2 := rfl
@[simp] theorem ratC_length (q : Rat) : (ratC q).length = 4 := rfl
@[simp] theorem intC_im (z : Int) : (intC z).all PC.im = true := rfl
@[simp] theorem ratC_im (q : Rat) : (ratC q).all PC.im = true := rfl
@[simp] theorem lC_im (l : List Nat) : (lC l).im = true := rfl
@[simp] theorem lC_norm (l : List Nat) : (lC l).norm = lC l := rfl
@[simp] theorem intC_norm (z : Int) : (intC z).map PC.norm = intC z := rfl
@[simp] theorem ratC_norm (q : Rat) : (ratC q).map PC.norm = ratC q := rfl
@[simp] theorem ratC_num (q : Rat) : (ratC q).take 2 = intC q.num := rfl
@[simp] theorem ratC_den (q : Rat) : (ratC q).drop 2 = intC q.den := rfl
@[simp] theorem intC_take (z : Int) : (intC z).take 2 = intC z := rfl
@[simp] theorem ratC_take (q : Rat) : (ratC q).take 4 = ratC q := rfl

theorem intC_ne (z : Int) : (intC z = []) = False := by simp [intC]
theorem ratC_ne (q : Rat) : (ratC q = []) = False := by simp [ratC, intC]
theorem cons_ne {α : Type} (a : α) (l : List α) : (a :: l = []) = False := by simp

end Go.PL

namespace Go.PL
theorem beq_ft : (false == true) = false := rfl
theorem beq_tf : (true == false) = false := rfl
theorem im_bool (b : Bool) : PC.im (.bool b) = true := rfl
theorem nm_bool (b : Bool) : PC.norm (.bool b) = (.bool b) := rfl
theorem im_int (k : IntKind) (n : Int) : PC.im (.int k n) = true := rfl
theorem nm_int (k : IntKind) (n : Int) : PC.norm (.int k n) = (.int k n) := rfl
theorem im_raw (v : Value) : PC.im (.raw v) = true := rfl
theorem nm_raw (v : Value) : PC.norm (.raw v) = (.raw v) := rfl
theorem im_fn (f : FuncId) : PC.im (.fn f) = true := rfl
theorem nm_fn (f : FuncId) : PC.norm (.fn f) = (.fn f) := rfl
theorem im_nils : PC.im (.nils) = true := rfl
theorem nm_nils : PC.norm (.nils) = .sl 0 [] := rfl
theorem im_sl (n : Nat) (cs : List PC) : PC.im (.sl n cs) = true := rfl
theorem nm_sl (n : Nat) (cs : List PC) : PC.norm (.sl n cs) = (.sl n cs) := rfl
theorem im_iptr (cs : List PC) : PC.im (.iptr cs) = true := rfl
theorem nm_iptr (cs : List PC) : PC.norm (.iptr cs) = (.iptr cs) := rfl
theorem im_ptr (id off : Nat) : PC.im (.ptr id off) = false := rfl
theorem nm_ptr (id off : Nat) : PC.norm (.ptr id off) = (.ptr id off) := rfl
theorem im_msl (id off len cap sz : Nat) : PC.im (.msl id off len cap sz) = false := rfl
theorem nm_msl (id off len cap sz : Nat) : PC.norm (.msl id off len cap sz) = (.msl id off len cap sz) := rfl
theorem im_clo (f : FuncId) (ps : List (Nat × Nat)) : PC.im (.clo f ps) = false := rfl
theorem nm_clo (f : FuncId) (ps : List (Nat × Nat)) : PC.norm (.clo f ps) = (.clo f ps) := rfl
theorem len_nils : lenC (some (.c .nils)) = some (.int .i64 0) := rfl
theorem len_sl (n : Nat) (cs : List PC) : lenC (some (.c (.sl n cs))) = some (.int .i64 n) := rfl
theorem len_msl (id off n cap sz : Nat) : lenC (some (.c (.msl id off n cap sz))) = some (.int .i64 n) := rfl
theorem slc_nils (σ : List Box) (z : Nat) : slCells σ z (some (.c .nils)) = some (0, []) := rfl
theorem slc_sl (σ : List Box) (z n : Nat) (cs : List PC) : slCells σ z (some (.c (.sl n cs))) = if cs.length = n * z then some (n, cs) else none := rfl
theorem slc_msl (σ : List Box) (z id off len cap sz : Nat) : slCells σ z (some (.c (.msl id off len cap sz))) = match σ[id]? with
    | some b => match b.cells? with
      | some cs => if sz = z ∧ off + len * z ≤ cs.length then some (len, (cs.drop off).take (len * z)) else none
      | none => none
    | none => none := rfl
theorem slc_lC (σ : List Box) (l : List Nat) : slCells σ 1 (some (.c (lC l))) = some (l.length, l.map fun (x : Nat) => .int .u32 (x : Int)) := by
  simp [lC, slCells]
theorem spl_cons (c : PC) (cs : List PC) (off : Nat) (xs : List PC) : splice (c :: cs) off xs = (c :: cs).take off ++ xs ++ (c :: cs).drop (off + xs.length) := rfl
theorem spl_int (z : Int) (off : Nat) (xs : List PC) : splice (intC z) off xs = (intC z).take off ++ xs ++ (intC z).drop (off + xs.length) := rfl
theorem spl_rat (q : Rat) (off : Nat) (xs : List PC) : splice (ratC q) off xs = (ratC q).take off ++ xs ++ (ratC q).drop (off + xs.length) := rfl
theorem spl_app (l m : List PC) (off : Nat) (xs : List PC) : splice (l ++ m) off xs = (l ++ m).take off ++ xs ++ (l ++ m).drop (off + xs.length) := rfl
theorem ic_bool (σ : List Box) (b : Bool) : immC σ (.bool b) = (.bool b) := rfl
theorem fi_bool (b : Bool) (l : List PC) : frzIds (.bool b :: l) = frzIds l := rfl
theorem ic_int (σ : List Box) (k : IntKind) (n : Int) : immC σ (.int k n) = (.int k n) := rfl
theorem fi_int (k : IntKind) (n : Int) (l : List PC) : frzIds (.int k n :: l) = frzIds l := rfl
theorem ic_raw (σ : List Box) (v : Value) : immC σ (.raw v) = (.raw v) := rfl
theorem fi_raw (v : Value) (l : List PC) : frzIds (.raw v :: l) = frzIds l := rfl
theorem ic_fn (σ : List Box) (f : FuncId) : immC σ (.fn f) = (.fn f) := rfl
theorem fi_fn (f : FuncId) (l : List PC) : frzIds (.fn f :: l) = frzIds l := rfl
theorem ic_nils (σ : List Box)  : immC σ (.nils) = (.nils) := rfl
theorem fi_nils  (l : List PC) : frzIds (.nils :: l) = frzIds l := rfl
theorem ic_sl (σ : List Box) (n : Nat) (cs : List PC) : immC σ (.sl n cs) = (.sl n cs) := rfl
theorem fi_sl (n : Nat) (cs : List PC) (l : List PC) : frzIds (.sl n cs :: l) = frzIds l := rfl
theorem ic_iptr (σ : List Box) (cs : List PC) : immC σ (.iptr cs) = (.iptr cs) := rfl
theorem fi_iptr (cs : List PC) (l : List PC) : frzIds (.iptr cs :: l) = frzIds l := rfl
theorem ic_ptr (σ : List Box) (id off : Nat) : immC σ (.ptr id off) = (.ptr id off) := rfl
theorem fi_ptr (id off : Nat) (l : List PC) : frzIds (.ptr id off :: l) = frzIds l := rfl
theorem ic_clo (σ : List Box) (f : FuncId) (ps : List (Nat × Nat)) : immC σ (.clo f ps) = (.clo f ps) := rfl
theorem fi_clo (f : FuncId) (ps : List (Nat × Nat)) (l : List PC) : frzIds (.clo f ps :: l) = frzIds l := rfl
theorem ic_lC (σ : List Box) (l : List Nat) : immC σ (lC l) = lC l := rfl
theorem fi_lC (l : List Nat) (r : List PC) : frzIds (lC l :: r) = frzIds r := rfl
theorem fi_msl (id off n cap sz : Nat) (r : List PC) : frzIds (.msl id off n cap sz :: r) = id :: frzIds r := rfl
theorem fi_nil : frzIds [] = [] := rfl
theorem fi_intC (z : Int) : frzIds (intC z) = [] := rfl
theorem fi_ratC (q : Rat) : frzIds (ratC q) = [] := rfl
theorem ic_msl (σ : List Box) (id off len cap sz : Nat) : immC σ (.msl id off len cap sz) = match σ[id]? with
    | some (.frz cs) => if off + len * sz ≤ cs.length then .sl len ((cs.drop off).take (len * sz)) else .msl id off len cap sz
    | _ => .msl id off len cap sz := rfl
theorem ic_intC (σ : List Box) (z : Int) : (intC z).map (immC σ) = intC z := rfl
theorem ic_ratC (σ : List Box) (q : Rat) : (ratC q).map (immC σ) = ratC q := rfl
theorem repC_0 (z : List PC) : repC 0 z = [] := rfl
theorem repC_1 (z : List PC) : repC 1 z = z := by simp [repC]
theorem repC_2 (z : List PC) : repC 2 z = z ++ z := by simp [repC, List.replicate]
theorem repC_3 (z : List PC) : repC 3 z = z ++ (z ++ z) := by simp [repC, List.replicate]
def actT (P : Program) (md : Md) (wf : Bool) (nid : Nat) (dst : Option Tmp) (K : St → Prop) (s : St) : A1 → Prop
  | .val v => K (s.put dst v)
  | .mk n cs => K (s.put dst (.e (.c (.sl n cs))))
  | .new v cs => s.st[nid]? = some .gone ∧ K ((s.box nid cs).put dst (v nid))
  | .sto id off cs => match s.st[id]? with
    | some (.live ds) => off + cs.length ≤ ds.length ∧ cs ≠ [] ∧ K ((s.box id (splice ds off cs)).put dst (.t []))
    | _ => False
  | .call f l => callS P md wf dst K s f l
  | .app none sz z n cs => md.dr = false ∧ if n = 0 then K (s.put dst (.e (.c .nils))) else
    (s.st[nid]? = some .gone ∧ ∀ c, n ≤ c → K ((s.box nid (cs ++ repC (c - n) z)).put dst (.e (.c (.msl nid 0 n c sz)))))
  | .app (some (id, off, len, cap)) sz z n cs => md.dr = false ∧ match s.st[id]? with
    | some (.live ds) => if len + n ≤ cap then off + (len + n) * sz ≤ ds.length ∧ K ((s.box id (splice ds (off + len * sz) cs)).put dst (.e (.c (.msl id off (len + n) cap sz)))) else
        off + len * sz ≤ ds.length ∧ s.st[nid]? = some .gone ∧ ∀ c, len + n ≤ c → K ((s.box nid ((ds.drop off).take (len * sz) ++ cs ++ repC (c - (len + n)) z)).put dst (.e (.c (.msl nid 0 (len + n) c sz))))
    | _ => False
  | .bad => False
theorem act_eq (P : Program) (md : Md) (wf : Bool) (nid : Nat) (dst : Option Tmp) (K : St → Prop) (s : St) (a : A1) : actS P md wf nid dst K s a = actT P md wf nid dst K s a := by
  cases a with
  | sto id off cs =>
    simp only [actS, actT]
    split
    · rename_i ds h; simp [h]
    · rename_i h
      refine eq_false ?_
      rintro ⟨ds, h1, _⟩
      exact h _ h1
  | app base sz z n cs =>
    cases base with
    | none =>
      simp only [actS, actT]
      by_cases h : n = 0 <;> simp [h]
    | some b =>
      obtain ⟨id, off, len, cap⟩ := b
      simp only [actS, actT]
      congr 1
      split
      · rename_i ds h
        by_cases hc : len + n ≤ cap
        · have hn : ¬ cap < len + n := by omega
          simp [h, hc, hn]
        · have hn : cap < len + n := by omega
          simp [h, hc, hn]
      · rename_i h
        refine eq_false ?_
        rintro ⟨ds, h1, _⟩
        exact h _ h1
  | _ => rfl
attribute [go_sem] mdOf heavy true_or or_true beq_ft beq_tf stepD wantD evA evB evF ptrsOf St.pe St.pv St.tu St.peO St.pad Nat.zero_add List.replicate_zero List.append_nil List.cons_append List.nil_append List.length_cons List.length_nil Nat.zero_lt_succ List.getElem_cons_zero List.getElem_cons_succ PE.cells St.put St.box List.set_cons_zero List.set_cons_succ List.set_nil isNew if_true if_false Nat.lt_add_one true_and and_true A1.ofPC A1.ofPE A1.ofPV fieldA fieldV partC elemOfK loadA Box.cells? loadC ratC_length intC_length Std.le_refl Nat.le_refl ratC_den ratC_num intC_take ratC_take St.peAll List.map_cons List.map_nil PE.norm intC_norm ratC_norm lC_norm callS wfOp calleeOf Bool.false_eq_true List.all_cons List.all_nil PE.im lC_im intC_im ratC_im Bool.and_self Bool.and_true Bool.true_and binE binI shI unE Option.map_some Option.map_none Option.bind_some pcOf List.getElem?_toArray List.getElem?_cons_zero List.getElem?_cons_succ List.toList_toArray places placesN fillC List.take_zero List.drop_zero List.take_succ_cons List.drop_succ_cons List.take_nil List.drop_nil ne_eq not_true_eq_false not_false_eq_true false_or or_false or_self and_self false_and and_false gt_iff_lt Nat.not_lt_zero Nat.lt_irrefl List.append_assoc appA newsOf List.take_append_drop List.filter_cons List.filter_nil Nat.add_zero Option.some.injEq PE.c.injEq PE.a.injEq PC.int.injEq PC.bool.injEq exists_eq_left' exists_eq_left beq_self_eq_true bne_self_eq_false decide_true decide_false Bool.not_true Bool.not_false Box.live.injEq intC_ne ratC_ne cons_ne EndsP resAll resE pack PV.e.injEq PV.t.injEq List.cons.injEq im_bool nm_bool im_int nm_int im_raw nm_raw im_fn nm_fn im_nils nm_nils im_sl nm_sl im_iptr nm_iptr im_ptr nm_ptr im_msl nm_msl im_clo nm_clo len_nils len_sl len_msl slc_nils slc_sl slc_msl slc_lC spl_cons spl_int spl_rat spl_app ic_bool fi_bool ic_int fi_int ic_raw fi_raw ic_fn fi_fn ic_nils fi_nils ic_sl fi_sl ic_iptr fi_iptr ic_ptr fi_ptr ic_clo fi_clo ic_lC fi_lC fi_msl fi_nil fi_intC fi_ratC ic_msl ic_intC ic_ratC frzL frzE frz1 immE List.foldl_cons List.foldl_nil true_implies false_implies implies_true forall_const imp_self Nat.mul_one Nat.one_mul Nat.zero_mul Nat.mul_zero actT
attribute [go_sem ↓] act_eq rgnX_cons rgnX_nil
attribute [go_sem high] repC_0 repC_1 repC_2 repC_3
attribute [go_sem_proc] Nat.reducePow Int.reduceMul Int.reduceAdd Int.reduceSub Nat.reduceEqDiff Nat.reduceBEq Nat.reduceBNe Nat.reduceAdd Nat.reduceSub Nat.reduceMul Nat.reduceLT Nat.reduceLeDiff List.reduceReplicate reduceCtorEq Int.reduceLT Int.reduceLE Int.reduceNeg Int.reduceEq Int.reduceBEq Int.reduceBNe Int.reduceToNat
attribute [go_sem_proc ↓] reduceIte
end Go.PL

namespace Go.PL

def u32s (l : List Nat) : List PC := l.map fun (x : Nat) => .int .u32 (x : Int)
theorem u32s_eq (l : List Nat) : (l.map fun (x : Nat) => PC.int .u32 (x : Int)) = u32s l := rfl
theorem lC_eq (l : List Nat) : lC l = .sl l.length (u32s l) := rfl
@[simp] theorem u32s_length (l : List Nat) : (u32s l).length = l.length := by simp [u32s]
@[simp] theorem u32s_im (l : List Nat) : (u32s l).all PC.im = true := by simp [u32s, PC.im]
@[simp] theorem u32s_lt (n : Nat) (l : List Nat) : (u32s l).all (PC.lt n) = true := by simp [u32s, PC.lt]
theorem u32s_get {l : List Nat} {j : Nat} (h : j < l.length) : (u32s l)[j]? = some (.int .u32 (l[j] : Nat)) := by simp [u32s, h]
theorem u32s_take (l : List Nat) (n : Nat) : (u32s l).take n = u32s (l.take n) := by simp [u32s, List.map_take]
theorem u32s_drop (l : List Nat) (n : Nat) : (u32s l).drop n = u32s (l.drop n) := by simp [u32s, List.map_drop]
theorem u32s_append (l m : List Nat) : u32s l ++ u32s m = u32s (l ++ m) := by simp [u32s]
theorem u32s_cons (x : Nat) (l : List Nat) : PC.int .u32 (x : Int) :: u32s l = u32s (x :: l) := rfl
theorem u32s_nil : u32s [] = [] := rfl
theorem u32s_splice {l : List Nat} {j : Nat} (h : j < l.length) (x : Nat) : splice (u32s l) j [.int .u32 (x : Int)] = u32s (l.set j x) := by
  unfold splice
  rw [u32s_take, u32s_drop]
  rw [List.set_eq_take_append_cons_drop, if_pos h]
  simp [u32s]
theorem repC_u32 (n : Nat) : repC n [.int .u32 0] = u32s (List.replicate n 0) := by
  induction n with
  | zero => rfl
  | succ n ih => unfold repC at ih ⊢; rw [List.replicate_succ, List.flatten_cons, ih]; rfl

theorem len_lC (l : List Nat) : lenC (some (.c (lC l))) = some (.int .i64 (l.length : Int)) := rfl
theorem ix_lC {l : List Nat} {j : Nat} (h : j < l.length) (sz bs : Nat) (ag : Bool) (z : Option (List PC)) (e : TypeId) (k : IntKind) :
    indexA ⟨sz, bs, ag, z, .slice e⟩ 1 (some (.c (lC l))) (some (.c (.int k (j : Int)))) = some (.iptr [.int .u32 (l[j] : Nat)]) := by
  have hc : (0 : Int) ≤ (j : Int) ∧ (j : Int) < (l.length : Int) := ⟨by omega, by omega⟩
  simp only [lC_eq, indexA, if_pos hc, Nat.mul_one, Int.toNat_natCast, u32s_drop]
  have hd : l.drop j = l[j] :: l.drop (j + 1) := List.drop_eq_getElem_cons h
  rw [hd]
  rfl
theorem cut_lC {l : List Nat} {j : Nat} (h : j ≤ l.length) (k : IntKind) : cutA 1 none (some (some (.c (.int k (j : Int))))) none (some (.c (lC l))) = some (lC (l.take j)) := by
  have hc : (0 : Int) ≤ (j : Int) ∧ (j : Int) ≤ (l.length : Int) := ⟨by omega, by omega⟩
  simp only [lC_eq, cutA, cutB, if_pos hc, Option.bind_some, Int.toNat_natCast, Nat.sub_zero, List.drop_zero, Nat.mul_one, u32s_take]
  rw [List.length_take, Nat.min_eq_left h]
theorem cut3_lC {l : List Nat} {j : Nat} (h : j ≤ l.length) (k k' : IntKind) : cutA 1 none (some (some (.c (.int k (j : Int))))) (some (some (.c (.int k' (j : Int))))) (some (.c (lC l))) = some (lC (l.take j)) := by
  have hc : (0 : Int) ≤ (j : Int) ∧ (j : Int) ≤ (l.length : Int) := ⟨by omega, by omega⟩
  have hc' : (0 : Int) ≤ (j : Int) ∧ (j : Int) ≤ (j : Int) := ⟨by omega, by omega⟩
  simp only [lC_eq, cutA, cutB, if_pos hc, Option.bind_some, Int.toNat_natCast, Nat.sub_zero, List.drop_zero, Nat.mul_one, u32s_take, if_pos hc']
  rw [List.length_take, Nat.min_eq_left h]
theorem ix_msl {id off n cap : Nat} {j : Nat} (h : j < n) (sz bs : Nat) (ag : Bool) (z : Option (List PC)) (e : TypeId) (k : IntKind) :
    indexA ⟨sz, bs, ag, z, .slice e⟩ 1 (some (.c (.msl id off n cap 1))) (some (.c (.int k (j : Int)))) = some (.ptr id (off + j)) := by
  have hc : (0 : Int) ≤ (j : Int) ∧ (j : Int) < (n : Int) := ⟨by omega, by omega⟩
  simp only [indexA, if_pos hc, Nat.mul_one, Int.toNat_natCast]

-- machine numbers that are natural numbers
theorem wi64' {z : Int} (h0 : -9223372036854775808 ≤ z) (h : z < 9223372036854775808) : IntKind.i64.wrap z = z := by
  unfold IntKind.wrap
  by_cases hz : 0 ≤ z
  · have e : z % (2 ^ IntKind.i64.bits : Int) = z := Int.emod_eq_of_lt hz (by simp only [IntKind.bits]; omega)
    simp only [e]
    rw [if_neg]
    simp [IntKind.bits, IntKind.signed]
    omega
  · have e : z % (2 ^ IntKind.i64.bits : Int) = z + 2 ^ 64 := by
      simp only [IntKind.bits]
      rw [← Int.add_emod_right]; exact Int.emod_eq_of_lt (by omega) (by omega)
    simp only [e]
    rw [if_pos]
    · simp only [IntKind.bits]; omega
    · simp [IntKind.bits, IntKind.signed]
      omega
theorem wu64 {n : Nat} (h : n < 18446744073709551616) : IntKind.u64.wrap (n : Int) = n := by
  unfold IntKind.wrap
  have e : (n : Int) % (2 ^ IntKind.u64.bits : Int) = n := Int.emod_eq_of_lt (by omega) (by simp only [IntKind.bits]; omega)
  simp only [e]
  rw [if_neg]
  simp [IntKind.bits, IntKind.signed]
theorem wu32 {n : Nat} (h : n < 4294967296) : IntKind.u32.wrap (n : Int) = n := by
  unfold IntKind.wrap
  have e : (n : Int) % (2 ^ IntKind.u32.bits : Int) = n := Int.emod_eq_of_lt (by omega) (by simp only [IntKind.bits]; omega)
  simp only [e]
  rw [if_neg]
  simp [IntKind.bits, IntKind.signed]
theorem nc_add (a b : Nat) : (a : Int) + (b : Int) = ((a + b : Nat) : Int) := by omega
theorem nc_mul (a b : Nat) : (a : Int) * (b : Int) = ((a * b : Nat) : Int) := (Int.natCast_mul a b).symm
theorem nc_add1 (a : Nat) : (a : Int) + 1 = ((a + 1 : Nat) : Int) := by omega
theorem nc_tmod (a b : Nat) : (a : Int).tmod (b : Int) = ((a % b : Nat) : Int) := by cases a <;> rfl
theorem nc_tdiv (a b : Nat) : (a : Int).tdiv (b : Int) = ((a / b : Nat) : Int) := by cases a <;> rfl
theorem nc_sub {a b : Nat} (h : b ≤ a) : (a : Int) - (b : Int) = ((a - b : Nat) : Int) := by omega
theorem nc_sub1 {a : Nat} (h : 1 ≤ a) : (a : Int) - 1 = ((a - 1 : Nat) : Int) := by omega

theorem wu64n {z : Int} (h0 : 0 ≤ z) (h : z < 18446744073709551616) : IntKind.u64.wrap z = z := by
  obtain ⟨n, rfl⟩ := Int.eq_ofNat_of_zero_le h0; exact wu64 (by omega)
theorem wu32n {z : Int} (h0 : 0 ≤ z) (h : z < 4294967296) : IntKind.u32.wrap z = z := by
  obtain ⟨n, rfl⟩ := Int.eq_ofNat_of_zero_le h0; exact wu32 (by omega)
theorem nc_addB (a : Nat) : (a : Int) + 1000000000 = ((a + 1000000000 : Nat) : Int) := by cases a <;> rfl
theorem nc_subB {a : Nat} (h : 1000000000 ≤ a) : (a : Int) - 1000000000 = ((a - 1000000000 : Nat) : Int) := by omega
theorem nc_mulB (a : Nat) : (a : Int) * 1000000000 = ((a * 1000000000 : Nat) : Int) := by cases a <;> rfl
theorem nc_tmodB (a : Nat) : (a : Int).tmod 1000000000 = ((a % 1000000000 : Nat) : Int) := by cases a <;> rfl
theorem nc_tdivB (a : Nat) : (a : Int).tdiv 1000000000 = ((a / 1000000000 : Nat) : Int) := by cases a <;> rfl
@[simp] theorem lC_lt (n : Nat) (l : List Nat) : (lC l).lt n = true := rfl

end Go.PL

namespace Go.PL

theorem le_T {a b : Nat} (h : a ≤ b) : (a ≤ b) = True := eq_true h
theorem lt_T {a b : Nat} (h : a < b) : (a < b) = True := eq_true h
theorem ile_T {a b : Int} (h : a ≤ b) : (a ≤ b) = True := eq_true h
theorem ilt_T {a b : Int} (h : a < b) : (a < b) = True := eq_true h
theorem le_F {a b : Nat} (h : ¬ a ≤ b) : (a ≤ b) = False := eq_false h
theorem lt_F {a b : Nat} (h : ¬ a < b) : (a < b) = False := eq_false h
theorem ieq_F {a b : Int} (h : ¬ a = b) : (a = b) = False := eq_false h
theorem beq_dec (a b : Int) : (a == b) = decide (a = b) := by
  by_cases h : a = b
  · simp [h]
  · simp [h]
theorem bne_dec (a b : Int) : (a != b) = !decide (a = b) := by rw [bne, beq_dec]
theorem tn_sub1 (k : Nat) : ((k : Int) - 1).toNat = k - 1 := by omega

theorem ixl {l : List Nat} {z : Int} (h0 : 0 ≤ z) (h1 : z < l.length) (sz bs : Nat) (ag : Bool) (zz : Option (List PC)) (e : TypeId) (k : IntKind) :
    indexA ⟨sz, bs, ag, zz, .slice e⟩ 1 (some (.c (lC l))) (some (.c (.int k z))) = some (.iptr [.int .u32 (l.getD z.toNat 0 : Nat)]) := by
  obtain ⟨j, rfl⟩ := Int.eq_ofNat_of_zero_le h0
  have hj : j < l.length := by omega
  rw [ix_lC hj]
  simp [hj]
theorem ixm {id off n cap : Nat} {z : Int} (h0 : 0 ≤ z) (h1 : z < n) (sz bs : Nat) (ag : Bool) (zz : Option (List PC)) (e : TypeId) (k : IntKind) :
    indexA ⟨sz, bs, ag, zz, .slice e⟩ 1 (some (.c (.msl id off n cap 1))) (some (.c (.int k z))) = some (.ptr id (off + z.toNat)) := by
  obtain ⟨j, rfl⟩ := Int.eq_ofNat_of_zero_le h0
  have hj : j < n := by omega
  rw [ix_msl hj]
  simp
theorem cutl {l : List Nat} {z : Int} (h0 : 0 ≤ z) (h1 : z ≤ l.length) (k : IntKind) : cutA 1 none (some (some (.c (.int k z)))) none (some (.c (lC l))) = some (lC (l.take z.toNat)) := by
  obtain ⟨j, rfl⟩ := Int.eq_ofNat_of_zero_le h0
  rw [cut_lC (by omega)]
  simp
theorem cutl3 {l : List Nat} {z : Int} (h0 : 0 ≤ z) (h1 : z ≤ l.length) (k k' : IntKind) : cutA 1 none (some (some (.c (.int k z)))) (some (some (.c (.int k' z)))) (some (.c (lC l))) = some (lC (l.take z.toNat)) := by
  obtain ⟨j, rfl⟩ := Int.eq_ofNat_of_zero_le h0
  rw [cut3_lC (by omega)]
  simp
theorem u32g {l : List Nat} {j : Nat} (h : j < l.length) : (u32s l)[j]? = some (.int .u32 (l.getD j 0 : Nat)) := by
  rw [u32s_get h]
  simp [h]
theorem u32sp {l : List Nat} {j : Nat} (h : j < l.length) (x : Nat) : splice (u32s l) j [.int .u32 (x : Int)] = u32s (l.set j x) := u32s_splice h x
theorem set_pad (l : List Nat) (k x : Nat) : (l ++ List.replicate (k + 1) 0).set l.length x = (l ++ [x]) ++ List.replicate k 0 := by
  rw [List.set_append_right _ _ (Nat.le_refl _), Nat.sub_self, List.replicate_succ, List.set_cons_zero, List.append_assoc, List.singleton_append]
theorem set_pad' {l : List Nat} {k i x : Nat} (hi : i = l.length) (hk : 0 < k) : (l ++ List.replicate k 0).set i x = (l ++ [x]) ++ List.replicate (k - 1) 0 := by
  subst hi
  obtain ⟨k, rfl⟩ := Nat.exists_eq_add_of_lt hk
  simp only [Nat.zero_add, Nat.add_sub_cancel]
  exact set_pad l k x

def dg (l : List Nat) (i : Nat) : Nat := l.getD i 0
theorem dg_lt {l : List Nat} (h : Dig l) (i : Nat) : dg l i < BS := by
  unfold dg
  rw [List.getD_eq_getElem?_getD]
  cases hl : l[i]? with
  | none => exact (by decide : 0 < BS)
  | some x => exact h x (List.mem_of_getElem? hl)
theorem dg_out {l : List Nat} {i : Nat} (h : l.length ≤ i) : dg l i = 0 := by
  unfold dg; rw [List.getD_eq_getElem?_getD, List.getElem?_eq_none h]; rfl
def vt (l : List Nat) (i : Nat) : Nat := val (l.take i)
@[simp] theorem vt_zero (l : List Nat) : vt l 0 = 0 := by simp [vt, val]
theorem vt_succ (l : List Nat) (i : Nat) : vt l (i + 1) = vt l i + BS ^ i * dg l i := by
  induction l generalizing i with
  | nil => simp [vt, val, dg]
  | cons x l ih =>
    cases i with
    | zero => simp [vt, val, dg]
    | succ i =>
      have := ih i
      simp only [vt, dg] at this ⊢
      simp only [List.take_succ_cons, val, this, List.getD_cons_succ, Nat.mul_add, Nat.pow_succ]
      rw [← Nat.add_assoc, Nat.mul_comm (BS ^ i) BS, Nat.mul_assoc]
theorem vt_all {l : List Nat} {i : Nat} (h : l.length ≤ i) : vt l i = val l := by rw [vt, List.take_of_length_le h]
theorem vt_lt {l : List Nat} (h : Dig l) (i : Nat) : vt l i < BS ^ i := by
  have h1 := val_lt (h.take i)
  have h2 : BS ^ (l.take i).length ≤ BS ^ i := Nat.pow_le_pow_right (by decide) (by simp; omega)
  unfold vt; omega
theorem val_snoc (l : List Nat) (x : Nat) : val (l ++ [x]) = val l + BS ^ l.length * x := by rw [val_append]; simp [val]
theorem Dig.snoc {l : List Nat} {x : Nat} (h : Dig l) (hx : x < BS) : Dig (l ++ [x]) := h.append (Dig.cons hx Dig.nil)
theorem fl_of {l : List Nat} {k n : Nat} (h : Dig l) (hl : l.length = k) (hv : val l = n) : l = fl k n := by
  subst hl; subst hv; exact (fl_val h).symm

theorem take_snoc {l : List Nat} {n : Nat} (h : n < l.length) : l.take (n + 1) = l.take n ++ [dg l n] := by
  unfold dg
  rw [List.take_add_one, List.getD_eq_getElem?_getD, List.getElem?_eq_getElem h]; rfl
theorem trim_done {l : List Nat} (hd : Dig l) {n : Nat} (hn : n ≤ l.length) (hv : vt l n = val l) (h : n = 0 ∨ dg l (n - 1) ≠ 0) : l.take n = limbs (val l) := by
  have hN : Nrm (l.take n) := by
    refine ⟨hd.take n, ?_⟩
    rcases h with rfl | h
    · simp
    · cases n with
      | zero => simp
      | succ n =>
        rw [take_snoc (by omega), List.getLast?_concat]
        simpa using h
  rw [← hv]; exact (limbs_of hN).symm
theorem trim_step {l : List Nat} {n : Nat} (hv : vt l n = val l) (h0 : 0 < n) (h : dg l (n - 1) = 0) : vt l (n - 1) = val l := by
  rw [← hv]
  obtain ⟨m, rfl⟩ := Nat.exists_eq_add_of_lt h0
  simp only [Nat.zero_add, Nat.add_sub_cancel] at h ⊢
  rw [vt_succ, h, Nat.mul_zero, Nat.add_zero]
theorem dg_eq (l : List Nat) (i : Nat) : l.getD i 0 = dg l i := rfl
theorem dg_take {l : List Nat} {n i : Nat} (h : i < n) : dg (l.take n) i = dg l i := by
  simp only [dg, List.getD_eq_getElem?_getD, List.getElem?_take, if_pos h]
theorem u32spp {out : List Nat} {r j x : Nat} (h : j = out.length) (hr : 0 < r) : splice (u32s (out ++ List.replicate r 0)) j [.int .u32 (x : Int)] = u32s ((out ++ [x]) ++ List.replicate (r - 1) 0) := by
  rw [u32sp (by simp; omega), set_pad' h hr]
attribute [go_sem high] u32sp u32spp nc_add1 nc_sub1 nc_addB nc_subB nc_mulB nc_tmodB nc_tdivB
theorem sl_u32s {n : Nat} {l : List Nat} (h : n = l.length) : PC.sl n (u32s l) = lC l := by rw [h]; rfl
attribute [go_sem] Nat.add_sub_cancel lt_F set_pad' u32s_take u32s_drop u32s_eq u32s_im len_lC lC_lt wi64' wu64n wu32n nc_add nc_mul nc_sub nc_tmod nc_tdiv decide_eq_true decide_eq_false le_T lt_T ile_T ilt_T ieq_F ixl ixm u32g u32s_length Int.toNat_natCast tn_sub1 beq_dec bne_dec List.length_set repC_u32 List.length_replicate List.length_append cutl cutl3 dg_eq

end Go.PL

namespace Go.PL

def cmpN (a b : Nat) : Int := if a < b then -1 else if b < a then 1 else 0
def sg (neg : Bool) (n : Nat) : Int := if neg then -(n : Int) else n
theorem sg_false (n : Nat) : sg false n = n := rfl
theorem cmpN_lt {a b : Nat} (h : a < b) : cmpN a b = -1 := by simp [cmpN, h]
theorem cmpN_gt {a b : Nat} (h : b < a) : cmpN a b = 1 := by simp [cmpN, h]; omega
theorem cmpN_eq {a b : Nat} (h : a = b) : cmpN a b = 0 := by simp [cmpN, h]

theorem signed_pos {l : List Nat} {n : Nat} (h : l.take n = limbs (val l)) : [PC.bool false, lC (l.take n)] = intC (sg false (val l)) := by
  rw [h]; simp [intC, sg]
theorem signed_neg {l : List Nat} {n : Nat} (hn : n ≤ l.length) (h : l.take n = limbs (val l)) : [PC.bool (decide (0 < (n : Int))), lC (l.take n)] = intC (sg true (val l)) := by
  have : (0 < (n : Int)) ↔ val l ≠ 0 := by
    have h1 : (l.take n).length = n := by simp; omega
    constructor
    · intro h0 hv
      rw [h, hv, limbs_zero] at h1
      simp at h1; omega
    · intro hv
      have : limbs (val l) ≠ [] := fun e => hv (limbs_eq_nil.1 e)
      rw [← h] at this
      have := List.length_pos_iff.2 this
      omega
  simp only [intC, sg, if_true, Int.natAbs_neg, Int.natAbs_natCast, h]
  congr 2
  simp only [decide_eq_decide]
  omega

theorem signed_neg' {l : List Nat} {n : Nat} {b : Bool} (hn : n ≤ l.length) (h : l.take n = limbs (val l)) (hb : b = decide (0 < (n : Int))) : [PC.bool b, lC (l.take n)] = intC (sg true (val l)) := by
  rw [hb]; exact signed_neg hn h
theorem BS_pos (k : Nat) : 0 < BS ^ k := Nat.pow_pos (by decide)
theorem limbs_lt_len {a b : Nat} (h : (limbs a).length < (limbs b).length) : a < b := by
  rcases Nat.lt_or_ge a b with q | q
  · exact q
  · have h1 : a < BS ^ (limbs a).length := by have := val_lt (limbs_dig a); rwa [limbs_val] at this
    have := limbs_len (n := b) (k := (limbs a).length) (by omega)
    omega
theorem cmp_done {A B : List Nat} {k : Nat} (h : val A + vt B k = val B + vt A k) (hk : k = 0) : val A = val B := by
  subst hk; simpa using h
theorem cmp_step {A B : List Nat} {k : Nat} (h : val A + vt B (k + 1) = val B + vt A (k + 1)) (hd : dg A k = dg B k) : val A + vt B k = val B + vt A k := by
  rw [vt_succ, vt_succ, hd] at h; omega
theorem cmp_lt {A B : List Nat} (hA : Dig A) {k : Nat} (h : val A + vt B (k + 1) = val B + vt A (k + 1)) (hd : dg A k < dg B k) : val A < val B := by
  rw [vt_succ, vt_succ] at h
  have h1 := vt_lt hA k
  have h2 : BS ^ k * (dg A k + 1) ≤ BS ^ k * dg B k := Nat.mul_le_mul_left _ hd
  rw [Nat.mul_add] at h2
  omega

structure PlusI (a b : List Nat) (i : Nat) (out : List Nat) (c : Nat) : Prop where
  len : out.length = i
  dig : Dig out
  car : c ≤ 1
  sum : vt a i + vt b i = val out + BS ^ i * c
theorem PlusI.zero (a b : List Nat) : PlusI a b 0 [] 0 := ⟨rfl, Dig.nil, by omega, by simp [val]⟩
theorem PlusI.lo {a b out : List Nat} {i c x : Nat} (h : PlusI a b i out c) (hx : x = dg a i + c + dg b i) (hl : x < BS) : PlusI a b (i + 1) (out ++ [x]) 0 := by
  subst hx
  refine ⟨by simp [h.len], h.dig.snoc hl, by omega, ?_⟩
  rw [vt_succ, vt_succ, val_snoc, h.len, Nat.mul_add, Nat.mul_add]
  have := h.sum
  omega
theorem PlusI.hi {a b out : List Nat} {i c x : Nat} (h : PlusI a b i out c) (ha : Dig a) (hb : Dig b) (hx : x + BS = dg a i + c + dg b i) : PlusI a b (i + 1) (out ++ [x]) 1 := by
  have h1 := dg_lt ha i; have h2 := dg_lt hb i; have h3 := h.car
  refine ⟨by simp [h.len], h.dig.snoc (by omega), by omega, ?_⟩
  rw [vt_succ, vt_succ, val_snoc, h.len, Nat.pow_succ]
  have := h.sum
  have e : BS ^ i * (dg a i + c + dg b i) = BS ^ i * (x + BS) := by rw [hx]
  rw [Nat.mul_add, Nat.mul_add, Nat.mul_add] at e
  omega
theorem PlusI.done {a b out : List Nat} {c : Nat} (h : PlusI a b a.length out c) (hl : b.length ≤ a.length) : out ++ [c] = fl (a.length + 1) (val a + val b) := by
  refine fl_of (h.dig.snoc (Nat.lt_of_le_of_lt h.car (by decide))) (by simp [h.len]) ?_
  rw [val_snoc, h.len, ← h.sum, vt_all (Nat.le_refl _), vt_all hl]

structure MinusI (a b : List Nat) (i : Nat) (out : List Nat) (c : Nat) : Prop where
  len : out.length = i
  dig : Dig out
  car : c ≤ 1
  sum : vt a i + BS ^ i * c = vt b i + val out
theorem MinusI.zero (a b : List Nat) : MinusI a b 0 [] 0 := ⟨rfl, Dig.nil, by omega, by simp [val]⟩
theorem MinusI.lo {a b out : List Nat} {i c x : Nat} (h : MinusI a b i out c) (ha : Dig a) (hx : x + (c + dg b i) = dg a i) : MinusI a b (i + 1) (out ++ [x]) 0 := by
  have h1 := dg_lt ha i
  refine ⟨by simp [h.len], h.dig.snoc (by omega), by omega, ?_⟩
  rw [vt_succ, vt_succ, val_snoc, h.len]
  have := h.sum
  rw [← hx, Nat.mul_add, Nat.mul_add]
  omega
theorem MinusI.hi {a b out : List Nat} {i c x : Nat} (h : MinusI a b i out c) (hb : Dig b) (hl : x < BS) (hx : x + (c + dg b i) = dg a i + BS) : MinusI a b (i + 1) (out ++ [x]) 1 := by
  refine ⟨by simp [h.len], h.dig.snoc hl, by omega, ?_⟩
  rw [vt_succ, vt_succ, val_snoc, h.len, Nat.pow_succ]
  have := h.sum
  have e : BS ^ i * (dg a i + BS) = BS ^ i * (x + (c + dg b i)) := by rw [hx]
  rw [Nat.mul_add, Nat.mul_add, Nat.mul_add] at e
  omega
theorem vt_mod {l : List Nat} (h : Dig l) (i : Nat) : vt l i = val l % BS ^ i := by
  have := val_append (l.take i) (l.drop i)
  rw [List.take_append_drop] at this
  by_cases hi : i ≤ l.length
  · rw [this, List.length_take, Nat.min_eq_left hi, Nat.add_mul_mod_self_left, Nat.mod_eq_of_lt (by have := vt_lt h i; exact this)]; rfl
  · rw [vt_all (by omega), Nat.mod_eq_of_lt]
    have h1 := val_lt h
    have h2 : BS ^ l.length ≤ BS ^ i := Nat.pow_le_pow_right (by decide) (by omega)
    omega
theorem MinusI.done {a b out : List Nat} {c : Nat} (ha : Dig a) (hb : Dig b) (h : MinusI a b a.length out c) (hv : val b ≤ val a) : out = fl a.length (val a - val b) := by
  have h1 := val_lt ha
  have h2 := h.sum
  rw [vt_all (Nat.le_refl _), vt_mod hb, Nat.mod_eq_of_lt (by omega)] at h2
  have h3 := val_lt h.dig
  rw [h.len] at h3
  have hc : c = 0 := by
    have := h.car
    rcases Nat.eq_zero_or_pos c with q | q
    · exact q
    · exfalso
      have : c = 1 := by omega
      rw [this, Nat.mul_one] at h2
      omega
  rw [hc, Nat.mul_zero] at h2
  exact fl_of h.dig h.len (by omega)

theorem Dig.set {l : List Nat} (h : Dig l) {j x : Nat} (hx : x < BS) : Dig (l.set j x) := fun y hy => by
  rcases List.mem_or_eq_of_mem_set hy with q | q
  · exact h y q
  · rw [q]; exact hx
theorem dg_set {l : List Nat} {j x : Nat} (h : j < l.length) : dg (l.set j x) j = x := by simp [dg, h]
theorem dg_set_ne {l : List Nat} {i j x : Nat} (h : j ≠ i) : dg (l.set j x) i = dg l i := by
  simp [dg, h]
theorem val_set {l : List Nat} {j x : Nat} (h : j < l.length) : val (l.set j x) + BS ^ j * dg l j = val l + BS ^ j * x := by
  induction l generalizing j with
  | nil => simp at h
  | cons y l ih =>
    cases j with
    | zero => simp [val, dg]; omega
    | succ j =>
      have := ih (j := j) (by simpa using h)
      simp only [List.set_cons_succ, val, dg, List.getD_cons_succ] at this ⊢
      have e : BS * (val (l.set j x) + BS ^ j * l.getD j 0) = BS * (val l + BS ^ j * x) := by rw [this]
      rw [Nat.mul_add, Nat.mul_add, ← Nat.mul_assoc, ← Nat.mul_assoc, Nat.mul_comm BS (BS ^ j), ← Nat.pow_succ] at e
      simp only [Nat.succ_eq_add_one] at e
      omega
theorem vt_le {l : List Nat} (i : Nat) : vt l i ≤ val l := by
  have := val_append (l.take i) (l.drop i)
  rw [List.take_append_drop] at this
  unfold vt; omega
theorem dg_zero {l : List Nat} {j : Nat} (h : val l < BS ^ j) : dg l j = 0 := by
  have h1 := vt_succ l j
  have h2 := vt_le (l := l) (j + 1)
  rcases Nat.eq_zero_or_pos (dg l j) with q | q
  · exact q
  · have := Nat.mul_le_mul_left (BS ^ j) q
    omega
theorem dig_rep (n : Nat) : Dig (List.replicate n 0) := fun x hx => by
  have := (List.mem_replicate.1 hx).2
  rw [this]; decide
theorem val_rep (n : Nat) : val (List.replicate n 0) = 0 := by
  induction n with
  | zero => rfl
  | succ n ih => rw [List.replicate_succ, val, ih]; rfl

structure TimesO (a b : List Nat) (i : Nat) (out : List Nat) : Prop where
  len : out.length = a.length + b.length
  dig : Dig out
  sum : val out = vt a i * val b
structure TimesI (a b : List Nat) (i k : Nat) (out : List Nat) (c : Nat) : Prop where
  len : out.length = a.length + b.length
  dig : Dig out
  car : c < BS
  zer : dg out (i + b.length) = 0
  sum : val out + BS ^ (i + k) * c = vt a i * val b + BS ^ i * (dg a i * vt b k)
theorem TimesO.zero (a b : List Nat) : TimesO a b 0 (List.replicate (a.length + b.length) 0) := ⟨by simp, dig_rep _, by simp [val_rep]⟩
theorem TimesO.inner {a b out : List Nat} {i : Nat} (h : TimesO a b i out) (ha : Dig a) (hb : Dig b) : TimesI a b i 0 out 0 := by
  refine ⟨h.len, h.dig, by decide, ?_, by simp [h.sum]⟩
  refine dg_zero ?_
  rw [h.sum, Nat.pow_add]
  have h1 := vt_lt ha i
  have h2 := val_lt hb
  exact Nat.mul_lt_mul'' h1 h2
theorem TimesI.bound {a b out : List Nat} {i k c : Nat} (h : TimesI a b i k out c) (ha : Dig a) (hb : Dig b) : dg out (i + k) + dg a i * dg b k + c < BS * BS := by
  have h1 := dg_lt h.dig (i + k)
  have h2 := dg_lt ha i
  have h3 := dg_lt hb k
  have h4 := h.car
  have : dg a i * dg b k ≤ (BS - 1) * (BS - 1) := Nat.mul_le_mul (by omega) (by omega)
  have e : (BS - 1) * (BS - 1) + 2 * BS = BS * BS + 1 := by decide
  omega
theorem TimesI.step {a b out : List Nat} {i k c : Nat} (h : TimesI a b i k out c) (ha : Dig a) (hb : Dig b) (hi : i < a.length) (hk : k < b.length) {t : Nat} (ht : t = dg out (i + k) + dg a i * dg b k + c) :
    TimesI a b i (k + 1) (out.set (i + k) (t % BS)) (t / BS) := by
  have hb0 : 0 < BS := by decide
  have hbd := h.bound ha hb
  refine ⟨by simp [h.len], h.dig.set (Nat.mod_lt _ hb0), ?_, ?_, ?_⟩
  · rw [← ht] at hbd; exact Nat.div_lt_of_lt_mul hbd
  · rw [dg_set_ne (by omega)]; exact h.zer
  · have h1 := val_set (l := out) (j := i + k) (x := t % BS) (by rw [h.len]; omega)
    have h2 := h.sum
    have h3 := Nat.mod_add_div t BS
    rw [vt_succ, ← Nat.add_assoc, Nat.pow_succ]
    have e1 : BS ^ (i + k) * (t % BS + BS * (t / BS)) = BS ^ (i + k) * (dg out (i + k) + dg a i * dg b k + c) := by rw [h3, ht]
    have e2 : BS ^ i * (dg a i * (vt b k + BS ^ k * dg b k)) = BS ^ i * (dg a i * vt b k) + BS ^ (i + k) * (dg a i * dg b k) := by
      rw [Nat.pow_add]; simp only [Nat.mul_add]; congr 1
      simp only [Nat.mul_assoc, Nat.mul_left_comm]
    rw [e2]
    simp only [Nat.mul_add, ← Nat.mul_assoc] at e1 h1 h2 ⊢
    omega
theorem TimesI.close {a b out : List Nat} {i c : Nat} (h : TimesI a b i b.length out c) (hi : i < a.length) : TimesO a b (i + 1) (out.set (i + b.length) c) := by
  refine ⟨by simp [h.len], h.dig.set h.car, ?_⟩
  have h1 := val_set (l := out) (j := i + b.length) (x := c) (by rw [h.len]; omega)
  rw [h.zer, Nat.mul_zero, Nat.add_zero] at h1
  rw [h1, h.sum, vt_succ, vt_all (Nat.le_refl _), Nat.add_mul, Nat.mul_assoc]
theorem TimesO.done {a b out : List Nat} (h : TimesO a b a.length out) : out = fl (a.length + b.length) (val a * val b) :=
  fl_of h.dig h.len (by rw [h.sum, vt_all (Nat.le_refl _)])

structure WordI (a : List Nat) (b k : Nat) (out : List Nat) (r : Nat) : Prop where
  len : out.length = a.length
  dig : Dig (out.drop k)
  rst : r < b
  sum : val (a.drop k) = b * val (out.drop k) + r
theorem WordI.zero (a : List Nat) {b : Nat} (hb : 0 < b) : WordI a b a.length (List.replicate a.length 0) 0 := by
  refine ⟨by simp, ?_, hb, ?_⟩
  · rw [List.drop_of_length_le (by simp)]; exact Dig.nil
  · rw [List.drop_of_length_le (by simp), List.drop_of_length_le (by simp)]; simp [val]
theorem drop_cons {l : List Nat} {k : Nat} (h : k < l.length) : l.drop k = dg l k :: l.drop (k + 1) := by
  rw [List.drop_eq_getElem_cons h]; simp [dg, h]
theorem WordI.bound {a out : List Nat} {b k r : Nat} (h : WordI a b (k + 1) out r) (ha : Dig a) : r * BS + dg a k < b * BS := by
  have h1 := h.rst
  have h2 := dg_lt ha k
  have := Nat.mul_le_mul_right BS h1
  rw [Nat.succ_mul] at this
  omega
theorem WordI.step {a out : List Nat} {b k r : Nat} (h : WordI a b (k + 1) out r) (ha : Dig a) (hk : k < a.length) {t : Nat} (ht : t = r * BS + dg a k) : WordI a b k (out.set k (t / b)) (t % b) := by
  have hb : 0 < b := by have := h.rst; omega
  have hbd := h.bound ha
  have hq : t / b < BS := Nat.div_lt_of_lt_mul (by rw [ht]; exact hbd)
  have e : (out.set k (t / b)).drop k = t / b :: out.drop (k + 1) := by
    rw [drop_cons (by simp [h.len, hk]), dg_set (by rw [h.len]; exact hk)]
    congr 1
    rw [List.drop_set]; simp
  refine ⟨by simp [h.len], ?_, Nat.mod_lt _ hb, ?_⟩
  · rw [e]; exact Dig.cons hq h.dig
  · rw [e, drop_cons hk, val, val, h.sum]
    have h3 := Nat.mod_add_div t b
    simp only [Nat.mul_add, ← Nat.mul_assoc] at h3 ⊢
    rw [Nat.mul_comm BS b, Nat.mul_comm BS r]
    omega
theorem WordI.done {a out : List Nat} {b r : Nat} (h : WordI a b 0 out r) : out = fl a.length (val a / b) ∧ r = val a % b := by
  have h1 := h.sum
  have hb : 0 < b := by have := h.rst; omega
  simp only [List.drop_zero] at h1
  have h2 : val a / b = val out := by rw [h1, Nat.mul_add_div hb, Nat.div_eq_of_lt h.rst, Nat.add_zero]
  have h3 : val a % b = r := by rw [h1, Nat.mul_add_mod, Nat.mod_eq_of_lt h.rst]
  exact ⟨fl_of (by simpa using h.dig) h.len h2.symm, h3.symm⟩
theorem dg_lt9 {l : List Nat} (h : Dig l) (i : Nat) : dg l i < 1000000000 := dg_lt h i
theorem PlusI.lo9 {a b out : List Nat} {i c x : Nat} (h : PlusI a b i out c) (hx : x = dg a i + c + dg b i) (hl : x < 1000000000) : PlusI a b (i + 1) (out ++ [x]) 0 := h.lo hx hl
theorem PlusI.hi9 {a b out : List Nat} {i c x : Nat} (h : PlusI a b i out c) (ha : Dig a) (hb : Dig b) (hx : x + 1000000000 = dg a i + c + dg b i) : PlusI a b (i + 1) (out ++ [x]) 1 := h.hi ha hb hx
theorem MinusI.hi9 {a b out : List Nat} {i c x : Nat} (h : MinusI a b i out c) (hb : Dig b) (hl : x < 1000000000) (hx : x + (c + dg b i) = dg a i + 1000000000) : MinusI a b (i + 1) (out ++ [x]) 1 := h.hi hb hl hx

end Go.PL
