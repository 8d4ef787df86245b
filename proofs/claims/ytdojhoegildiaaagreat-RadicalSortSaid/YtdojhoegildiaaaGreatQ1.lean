/- The pure layer, first part: pure values, the ghost map of immutable memory, and how values of the machine stand for pure values. Conditions: none (definitions and lemmas).
   The pure layer, second part: what each operation that writes nothing computes on pure values, and that the machine's operation computes just that. Conditions: none (definitions and lemmas).
   The pure layer, third part: the action of one operation on a pure state. Conditions: none (definitions and lemmas).
   The pure layer, fourth part: the machine's operation does what 'evA' tells: values. Conditions: none (lemmas).
   The pure layer, fifth part: the machine's operation does what 'evA' tells. Conditions: none (lemmas).
   The pure layer, sixth part: operations that make or write memory, and calls. Conditions: none (lemmas).
   The pure layer, seventh part: new blocks that are never written, stores and calls. Conditions: none (lemmas).
   The pure layer, eighth part: one operation of a region, on a state and on the machine. Conditions: none (definitions and lemmas).
   The pure layer, ninth part: one operation on the machine follows the state's; regions in the order of the text. Conditions: none (lemmas).
   The pure layer, tenth part: a region that draws its order may be run in the order of the text, if operations that no edge orders are independent. Conditions: none (lemmas). -/
import Derived.Calls
import Derived.Orders
import Derived.Below
import Derived.Laws.Sem
import Derived.Laws.Cells
set_option linter.unusedVariables false
set_option linter.unusedSimpArgs false
namespace Go.PL
open Go.RowKit

abbrev GMem := Nat → Nat → Option Value

inductive PC where
  | bool (b : Bool)
  | int (k : IntKind) (n : Int)
  | raw (v : Value)
  | fn (f : FuncId)
  | nils
  | sl (n : Nat) (cs : List PC)
  | iptr (cs : List PC)
  | ptr (id off : Nat)
  | msl (id off len cap sz : Nat)
  | clo (f : FuncId) (ps : List (Nat × Nat))
  deriving Inhabited

inductive PE where
  | c (p : PC)
  | a (cs : List PC)
  deriving Inhabited

inductive PV where
  | e (x : PE)
  | t (xs : List PE)
  | j
  deriving Inhabited

inductive Box where
  | gone
  | live (cs : List PC)
  | frz (cs : List PC)
  deriving Inhabited

structure St where
  slots : List PV
  st : List Box

inductive IRep (G : GMem) : Value → PC → Prop
  | bool (b) : IRep G (.bool b) (.bool b)
  | int (k n) : IRep G (.int k n) (.int k n)
  | raw (v : Value) (h : v.oneCell' = true) : IRep G v (.raw v)
  | fn (f) : IRep G (.func (.func f) #[] #[]) (.fn f)
  | nils : IRep G (.slice none 0 0) .nils
  | nil : IRep G (.slice none 0 0) (.sl 0 [])
  | slz (a : Addr) : IRep G (.slice (some a) 0 0) (.sl 0 [])
  | sl (b off n cap : Nat) (cs : List PC) (us : Nat → Value) (hc : n ≤ cap) (h1 : ∀ i, i < cs.length → G b (off + i) = some (us i))
      (h2 : ∀ i (h : i < cs.length), IRep G (us i) cs[i]) : IRep G (.slice (some ⟨b, off, none⟩) n cap) (.sl n cs)
  | iptr (b off : Nat) (cs : List PC) (us : Nat → Value) (h1 : ∀ i, i < cs.length → G b (off + i) = some (us i))
      (h2 : ∀ i (h : i < cs.length), IRep G (us i) cs[i]) : IRep G (.pointer (some ⟨b, off, none⟩)) (.iptr cs)

def RepC (G : GMem) (bl : Nat → Nat) (L : Nat → Prop) (v : Value) : PC → Prop
  | .ptr id off => L id ∧ v = .pointer (some ⟨bl id, off, none⟩)
  | .msl id off len cap _ => L id ∧ v = .slice (some ⟨bl id, off, none⟩) len cap ∧ len ≤ cap
  | .clo f ps => ∃ arr : Array Value, v = .func (.func f) #[] arr ∧ arr.toList = ps.map (fun p => .pointer (some ⟨bl p.1, p.2, none⟩)) ∧ ∀ p ∈ ps, L p.1
  | p => IRep G v p

inductive All2 {α β : Type} (R : α → β → Prop) : List α → List β → Prop
  | nil : All2 R [] []
  | cons {a b l m} : R a b → All2 R l m → All2 R (a :: l) (b :: m)

namespace All2
variable {α β : Type} {R S : α → β → Prop}
theorem length {l : List α} {m : List β} (h : All2 R l m) : l.length = m.length := by
  induction h with
  | nil => rfl
  | cons _ _ ih => simp [ih]
theorem mono {l : List α} {m : List β} (h : All2 R l m) (hr : ∀ a b, R a b → S a b) : All2 S l m := by
  induction h with
  | nil => exact .nil
  | cons h _ ih => exact .cons (hr _ _ h) ih
theorem append {l l' : List α} {m m' : List β} (h : All2 R l m) (h' : All2 R l' m') : All2 R (l ++ l') (m ++ m') := by
  induction h with
  | nil => exact h'
  | cons h _ ih => exact .cons h ih
theorem get {l : List α} {m : List β} (h : All2 R l m) : ∀ (i : Nat) (b : β), m[i]? = some b → ∃ a, l[i]? = some a ∧ R a b := by
  induction h with
  | nil => intro i b hb; simp at hb
  | cons h _ ih =>
    intro i b hb
    cases i with
    | zero => simp at hb; subst hb; exact ⟨_, rfl, h⟩
    | succ i => simpa using ih i b (by simpa using hb)
theorem get' {l : List α} {m : List β} (h : All2 R l m) : ∀ (i : Nat) (a : α), l[i]? = some a → ∃ b, m[i]? = some b ∧ R a b := by
  induction h with
  | nil => intro i b hb; simp at hb
  | cons h _ ih =>
    intro i b hb
    cases i with
    | zero => simp at hb; subst hb; exact ⟨_, rfl, h⟩
    | succ i => simpa using ih i b (by simpa using hb)
theorem take {l : List α} {m : List β} (h : All2 R l m) : ∀ n, All2 R (l.take n) (m.take n) := by
  induction h with
  | nil => intro n; simp; exact .nil
  | cons h _ ih =>
    intro n
    cases n with
    | zero => simp; exact .nil
    | succ n => simp; exact .cons h (ih n)
theorem drop {l : List α} {m : List β} (h : All2 R l m) : ∀ n, All2 R (l.drop n) (m.drop n) := by
  induction h with
  | nil => intro n; simp; exact .nil
  | cons h ht ih =>
    intro n
    cases n with
    | zero => simp; exact .cons h ht
    | succ n => simp; exact ih n
theorem set {l : List α} {m : List β} (h : All2 R l m) (i : Nat) {a : α} {b : β} (hab : R a b) : All2 R (l.set i a) (m.set i b) := by
  induction h generalizing i with
  | nil => simp; exact .nil
  | cons h ht ih =>
    cases i with
    | zero => simp; exact .cons hab ht
    | succ i => simp; exact .cons h (ih i)
theorem of_get {l : List α} {m : List β} (hl : l.length = m.length) (h : ∀ i (h1 : i < l.length) (h2 : i < m.length), R l[i] m[i]) : All2 R l m := by
  induction l generalizing m with
  | nil => cases m with | nil => exact .nil | cons => simp at hl
  | cons a l ih =>
    cases m with
    | nil => simp at hl
    | cons b m =>
      refine .cons (h 0 (by simp) (by simp)) (ih (by simpa using hl) fun i h1 h2 => ?_)
      have := h (i + 1) (by simpa using h1) (by simpa using h2)
      simpa using this
theorem replicate (n : Nat) {a : α} {b : β} (h : R a b) : All2 R (List.replicate n a) (List.replicate n b) := by
  induction n with
  | zero => exact .nil
  | succ n ih => exact .cons h ih
theorem map_right {γ : Type} {f : γ → β} {l : List α} {m : List γ} (h : All2 (fun c b => R c (f b)) l m) : All2 R l (m.map f) := by
  induction h with
  | nil => exact .nil
  | cons h _ ih => exact .cons h ih
end All2

def RepE (G : GMem) (bl : Nat → Nat) (L : Nat → Prop) (v : Value) : PE → Prop
  | .c p => RepC G bl L v p
  | .a cs => ∃ arr : Array Value, v = .agg arr ∧ All2 (RepC G bl L) arr.toList cs

def RepV (G : GMem) (bl : Nat → Nat) (L : Nat → Prop) (v : Value) : PV → Prop
  | .e x => RepE G bl L v x
  | .t xs => ∃ arr : Array Value, v = .tuple arr ∧ All2 (RepE G bl L) arr.toList xs
  | .j => True

def Agree (G : GMem) (w : World) : Prop := ∀ b o u, G b o = some u → w.cell? ⟨b, o, none⟩ = some u

def GLe (G G' : GMem) : Prop := ∀ b o u, G b o = some u → G' b o = some u
theorem GLe.refl (G : GMem) : GLe G G := fun _ _ _ h => h
theorem GLe.trans {a b c : GMem} (h : GLe a b) (k : GLe b c) : GLe a c := fun _ _ _ x => k _ _ _ (h _ _ _ x)

theorem IRep.mono {G G' : GMem} (h : GLe G G') {v : Value} {p : PC} (r : IRep G v p) : IRep G' v p := by
  induction r with
  | bool b => exact .bool b
  | int k n => exact .int k n
  | raw v h => exact .raw v h
  | fn f => exact .fn f
  | nils => exact .nils
  | nil => exact .nil
  | slz a => exact .slz a
  | sl b off n cap cs us hc h1 _ ih => exact .sl b off n cap cs us hc (fun i hi => h _ _ _ (h1 i hi)) ih
  | iptr b off cs us h1 _ ih => exact .iptr b off cs us (fun i hi => h _ _ _ (h1 i hi)) ih

def PC.norm : PC → PC
  | .nils => .sl 0 []
  | p => p
def PE.norm : PE → PE
  | .c p => .c p.norm
  | .a cs => .a (cs.map PC.norm)
def PV.norm : PV → PV
  | .e x => .e x.norm
  | .t xs => .t (xs.map PE.norm)
  | .j => .j

theorem IRep.norm {G : GMem} {v : Value} {p : PC} (h : IRep G v p) : IRep G v p.norm := by
  cases h <;> first | exact .nil | (constructor <;> assumption)

def PC.im : PC → Bool
  | .ptr _ _ | .msl _ _ _ _ _ | .clo _ _ => false
  | _ => true
def PE.im : PE → Bool
  | .c p => p.im
  | .a cs => cs.all PC.im

theorem RepC.of_irep {G : GMem} {bl : Nat → Nat} {L : Nat → Prop} {v : Value} {p : PC} (h : IRep G v p) : RepC G bl L v p := by
  cases p <;> first | exact h | (exfalso; cases h)
theorem RepC.irep {G : GMem} {bl : Nat → Nat} {L : Nat → Prop} {v : Value} {p : PC} (h : RepC G bl L v p) (hi : p.im = true) : IRep G v p := by
  cases p <;> first | exact h | (exfalso; simp [PC.im] at hi)

theorem RepC.norm {G : GMem} {bl : Nat → Nat} {L : Nat → Prop} {v : Value} {p : PC} (h : RepC G bl L v p) : RepC G bl L v p.norm := by
  cases p <;> first | exact h | exact IRep.norm h
theorem All2.normC {G : GMem} {bl : Nat → Nat} {L : Nat → Prop} {l : List Value} {cs : List PC} (h : All2 (RepC G bl L) l cs) : All2 (RepC G bl L) l (cs.map PC.norm) := by
  induction h with
  | nil => exact .nil
  | cons h _ ih => exact .cons h.norm ih

theorem RepC.mono {G G' : GMem} {bl bl' : Nat → Nat} {L L' : Nat → Prop} (hg : GLe G G') (hb : ∀ id, L id → bl' id = bl id) (hl : ∀ id, L id → L' id)
    {v : Value} {p : PC} (h : RepC G bl L v p) : RepC G' bl' L' v p := by
  cases p with
  | ptr id off => obtain ⟨h1, h2⟩ := h; exact ⟨hl _ h1, by rw [hb _ h1]; exact h2⟩
  | msl id off len cap sz => obtain ⟨h1, h2, h3⟩ := h; exact ⟨hl _ h1, by rw [hb _ h1]; exact h2, h3⟩
  | clo f ps =>
    obtain ⟨arr, h1, h2, h3⟩ := h
    refine ⟨arr, h1, ?_, fun p hp => hl _ (h3 p hp)⟩
    rw [h2]
    exact List.map_congr_left fun p hp => by rw [hb _ (h3 p hp)]
  | _ => exact IRep.mono hg h

theorem RepE.mono {G G' : GMem} {bl bl' : Nat → Nat} {L L' : Nat → Prop} (hg : GLe G G') (hb : ∀ id, L id → bl' id = bl id) (hl : ∀ id, L id → L' id)
    {v : Value} {p : PE} (h : RepE G bl L v p) : RepE G' bl' L' v p := by
  cases p with
  | c p => exact RepC.mono hg hb hl h
  | a cs => obtain ⟨arr, h1, h2⟩ := h; exact ⟨arr, h1, h2.mono fun _ _ => RepC.mono hg hb hl⟩

theorem RepE.norm {G : GMem} {bl : Nat → Nat} {L : Nat → Prop} {v : Value} {p : PE} (h : RepE G bl L v p) : RepE G bl L v p.norm := by
  cases p with
  | c p => exact RepC.norm h
  | a cs => obtain ⟨arr, h1, h2⟩ := h; exact ⟨arr, h1, h2.normC⟩
theorem All2.normE {G : GMem} {bl : Nat → Nat} {L : Nat → Prop} {l : List Value} {cs : List PE} (h : All2 (RepE G bl L) l cs) : All2 (RepE G bl L) l (cs.map PE.norm) := by
  induction h with
  | nil => exact .nil
  | cons h _ ih => exact .cons h.norm ih
theorem RepV.norm {G : GMem} {bl : Nat → Nat} {L : Nat → Prop} {v : Value} {p : PV} (h : RepV G bl L v p) : RepV G bl L v p.norm := by
  cases p with
  | e x => exact RepE.norm h
  | t xs => obtain ⟨arr, h1, h2⟩ := h; exact ⟨arr, h1, h2.normE⟩
  | j => trivial

theorem RepV.mono {G G' : GMem} {bl bl' : Nat → Nat} {L L' : Nat → Prop} (hg : GLe G G') (hb : ∀ id, L id → bl' id = bl id) (hl : ∀ id, L id → L' id)
    {v : Value} {p : PV} (h : RepV G bl L v p) : RepV G' bl' L' v p := by
  cases p with
  | e x => exact RepE.mono hg hb hl h
  | t xs => obtain ⟨arr, h1, h2⟩ := h; exact ⟨arr, h1, h2.mono fun _ _ => RepE.mono hg hb hl⟩
  | j => trivial

theorem IRep.oneCell' {G : GMem} {v : Value} {p : PC} (h : IRep G v p) : v.oneCell' = true := by
  cases h <;> first | rfl | assumption
theorem RepC.oneCell {G : GMem} {bl : Nat → Nat} {L : Nat → Prop} {v : Value} {p : PC} (h : RepC G bl L v p) : v.oneCell' = true := by
  cases p with
  | ptr id off => obtain ⟨_, rfl⟩ := h; rfl
  | msl id off len cap sz => obtain ⟨_, rfl, _⟩ := h; rfl
  | clo f ps => obtain ⟨arr, rfl, _⟩ := h; rfl
  | _ => exact IRep.oneCell' h

def Box.there : Box → Bool
  | .gone => false
  | _ => true
def There (σ : List Box) (id : Nat) : Prop := ∃ b, σ[id]? = some b ∧ b.there = true

structure RelS (G : GMem) (bl : Nat → Nat) (w : World) (σ : List Box) : Prop where
  agree : Agree G w
  live : ∀ id cs, σ[id]? = some (.live cs) → ∃ arr e, w.heap[bl id]? = some (.cells arr e (0, 0)) ∧ All2 (RepC G bl (There σ)) arr.toList cs ∧ ∀ o, G (bl id) o = none
  frz : ∀ id cs, σ[id]? = some (.frz cs) → ∃ us : Nat → Value, (∀ i, i < cs.length → G (bl id) i = some (us i)) ∧ ∀ i (h : i < cs.length), IRep G (us i) cs[i]
  inj : ∀ id id' cs cs', σ[id]? = some (.live cs) → σ[id']? = some (.live cs') → bl id = bl id' → id = id'

end Go.PL

namespace Go.PL
open Go.RowKit

inductive TK where
  | bool
  | int (k : IntKind)
  | struct (fs : List (Nat × Nat × Bool))
  | slice (e : TypeId)
  | array (n : Nat) (e : TypeId)
  | other
  deriving Inhabited

structure TI where
  size : Nat
  bytes : Nat
  agg : Bool
  zero : Option (List PC)
  k : TK
  deriving Inhabited

def pcOf : Value → Option PC
  | .bool b => some (.bool b)
  | .int k n => some (.int k n)
  | .slice none 0 0 => some .nils
  | .slice _ _ _ | .agg _ | .tuple _ => none
  | v => some (.raw v)

def aggB (P : Program) (t : TypeId) : Bool :=
  match P.underlying t with
  | some (.struct _) | some (.array _ _) => true
  | _ => false

def tiOf (P : Program) (t : TypeId) : Option TI :=
  match P.info? t, P.underlying t with
  | some i, some u => some {
      size := i.size, bytes := i.bytes, agg := aggB P t,
      zero := (i.zero).bind fun z => z.cells.toList.mapM pcOf,
      k := match u with
        | .bool => .bool
        | .int k => .int k
        | .struct fs => if fs.toList.all (fun f => (P.underlying f.type).isSome && P.cellsOf f.type != 0) then .struct (fs.toList.map fun f => (f.offset, P.cellsOf f.type, aggB P f.type)) else .other
        | .slice e => .slice e
        | .array n e => .array n e
        | _ => .other }
  | _, _ => none

theorem tiOf_parts {P : Program} {t : TypeId} {i : TI} (h : tiOf P t = some i) : ∃ inf u, P.info? t = some inf ∧ P.underlying t = some u ∧ inf.size = i.size ∧ inf.bytes = i.bytes ∧
    i.agg = aggB P t ∧ i.zero = (inf.zero).bind (fun z => z.cells.toList.mapM pcOf) ∧ i.k = (match u with
        | .bool => TK.bool
        | .int k => .int k
        | .struct fs => if fs.toList.all (fun f => (P.underlying f.type).isSome && P.cellsOf f.type != 0) then .struct (fs.toList.map fun f => (f.offset, P.cellsOf f.type, aggB P f.type)) else .other
        | .slice e => .slice e
        | .array n e => .array n e
        | _ => .other) := by
  unfold tiOf at h
  split at h
  · rename_i inf u h1 h2
    simp only [Option.some.injEq] at h
    subst h
    exact ⟨inf, u, h1, h2, rfl, rfl, rfl, rfl, rfl⟩
  · simp at h

section runs
variable {P : Program} {w : World} {t : TypeId} {i : TI}

theorem run_typeInfo {inf : TypeInfo} (h : P.info? t = some inf) : (typeInfo t).run P w = .ok inf w := by
  simp [typeInfo, h]
theorem run_under {u : TypeDesc} (h : P.underlying t = some u) : (underlying t).run P w = .ok u w := by
  simp [underlying, h]
theorem run_sizeOf (h : tiOf P t = some i) : (sizeOf t).run P w = .ok i.size w := by
  obtain ⟨inf, u, h1, _, h3, _⟩ := tiOf_parts h
  simp [sizeOf, run_typeInfo h1, h3]
theorem run_sizeOf' {n : Nat} (h : (P.info? t).map (·.size) = some n) : (sizeOf t).run P w = .ok n w := by
  cases hi : P.info? t with
  | none => simp [hi] at h
  | some inf => simp [hi] at h; simp [sizeOf, run_typeInfo hi, h]
theorem run_isAgg (h : tiOf P t = some i) : (isAgg t).run P w = .ok i.agg w := by
  obtain ⟨inf, u, _, h2, _, _, h5, _⟩ := tiOf_parts h
  simp only [isAgg, Sem.run_bind, run_under h2, Result.andThen_ok, h5, aggB, h2]
  cases u <;> rfl
theorem run_isAgg' (hu : (P.underlying t).isSome = true) : (isAgg t).run P w = .ok (aggB P t) w := by
  obtain ⟨u, hu⟩ := Option.isSome_iff_exists.1 hu
  simp only [isAgg, Sem.run_bind, run_under hu, Result.andThen_ok, aggB, hu]
  cases u <;> rfl
theorem run_zeroValue {z : Value} {inf : TypeInfo} (h : P.info? t = some inf) (hz : inf.zero = some z) : (zeroValue t).run P w = .ok z w := by
  simp [zeroValue, run_typeInfo h, hz]
end runs

theorem pcOf_irep {G : GMem} {v : Value} {p : PC} (h : pcOf v = some p) : IRep G v p := by
  unfold pcOf at h
  split at h <;> simp at h <;> try (subst h)
  · exact .bool _
  · exact .int _ _
  · exact .nils
  · refine .raw _ ?_
    cases v <;> first | rfl | simp_all

theorem mapM_pcOf {G : GMem} {l : List Value} {cs : List PC} (h : l.mapM pcOf = some cs) : All2 (IRep G) l cs := by
  induction l generalizing cs with
  | nil => simp at h; subst h; exact .nil
  | cons a l ih =>
    simp only [List.mapM_cons, Option.bind_eq_bind, Option.bind_eq_some_iff, Option.pure_def, Option.some.injEq] at h
    obtain ⟨p, hp, ps, hps, rfl⟩ := h
    exact .cons (pcOf_irep hp) (ih hps)

def St.pe (s : St) : Operand → Option PE
  | .tmp t => match s.slots[t]? with
    | some (.e x) => some x
    | _ => none
  | .const v => (pcOf v).map .c
  | .func f => some (.c (.fn f))
  | .global _ => none

def St.tu (s : St) : Operand → Option (List PE)
  | .tmp t => match s.slots[t]? with
    | some (.t xs) => some xs
    | _ => none
  | _ => none

def St.pv (s : St) : Operand → Option PV
  | .tmp t => s.slots[t]?
  | x => (s.pe x).map .e

structure RelA (G : GMem) (bl : Nat → Nat) (a : Act) (w : World) (s : St) : Prop where
  slots : All2 (RepV G bl (There s.st)) a.tmps.toList s.slots
  defers : a.defers = []
  st : RelS G bl w s.st

section operands
variable {G : GMem} {bl : Nat → Nat} {a : Act} {w : World} {s : St}

theorem RelA.pv (h : RelA G bl a w s) {x : Operand} {v : PV} (hx : s.pv x = some v) : RepV G bl (There s.st) (a.eval x) v := by
  cases x with
  | tmp t =>
    simp only [St.pv] at hx
    obtain ⟨u, hu, r⟩ := h.slots.get t v hx
    have : a.tmps[t]? = some u := by rw [← Array.getElem?_toList]; exact hu
    simp only [Act.eval, Array.getD_eq_getD_getElem?, this, Option.getD_some]
    exact r
  | const c =>
    simp only [St.pv, St.pe, Option.map_map, Option.map_eq_some_iff, Function.comp] at hx
    obtain ⟨p, hp, rfl⟩ := hx
    exact RepC.of_irep (pcOf_irep hp)
  | global g => simp [St.pv, St.pe] at hx
  | func f =>
    simp only [St.pv, St.pe, Option.map_some, Option.some.injEq] at hx
    subst hx
    exact IRep.fn f

theorem St.pv_of_pe {s : St} {x : Operand} {p : PE} (hx : s.pe x = some p) : s.pv x = some (.e p) := by
  cases x with
  | tmp t =>
    simp only [St.pe] at hx
    simp only [St.pv]
    split at hx <;> simp_all
  | _ => simp [St.pv, hx]

theorem RelA.pe (h : RelA G bl a w s) {x : Operand} {p : PE} (hx : s.pe x = some p) : RepE G bl (There s.st) (a.eval x) p :=
  h.pv (v := .e p) (St.pv_of_pe hx)

theorem RelA.tu (h : RelA G bl a w s) {x : Operand} {xs : List PE} (hx : s.tu x = some xs) : ∃ arr, a.eval x = .tuple arr ∧ All2 (RepE G bl (There s.st)) arr.toList xs := by
  cases x with
  | tmp t =>
    simp only [St.tu] at hx
    split at hx
    · rename_i ys hy
      simp only [Option.some.injEq] at hx
      subst hx
      exact h.pv (x := .tmp t) (v := .t ys) hy
    · simp at hx
  | _ => simp [St.tu] at hx
end operands

def Box.cells? : Box → Option (List PC)
  | .gone => Option.none
  | .live cs | .frz cs => some cs

theorem RelS.cell {G : GMem} {bl : Nat → Nat} {w : World} {σ : List Box} (h : RelS G bl w σ) {id : Nat} {b : Box} {cs : List PC} (hb : σ[id]? = some b)
    (hc : b.cells? = some cs) {i : Nat} {p : PC} (hp : cs[i]? = some p) : ∃ v, w.cell? ⟨bl id, i, none⟩ = some v ∧ RepC G bl (There σ) v p := by
  cases b with
  | gone => simp [Box.cells?] at hc
  | live cs' =>
    simp only [Box.cells?, Option.some.injEq] at hc
    subst hc
    obtain ⟨arr, e, hh, ha, _⟩ := h.live id cs' hb
    obtain ⟨v, hv, r⟩ := ha.get i p hp
    refine ⟨v, ?_, r⟩
    simp only [World.cell?, hh]
    simpa using hv
  | frz cs' =>
    simp only [Box.cells?, Option.some.injEq] at hc
    subst hc
    obtain ⟨us, h1, h2⟩ := h.frz id cs' hb
    have hi : i < cs'.length := by
      rcases Nat.lt_or_ge i cs'.length with q | q
      · exact q
      · rw [List.getElem?_eq_none q] at hp; simp at hp
    refine ⟨us i, h.agree _ _ _ (h1 i hi), ?_⟩
    have := h2 i hi
    rw [List.getElem?_eq_getElem hi, Option.some.injEq] at hp
    rw [hp] at this
    exact RepC.of_irep this

def loadC (i : TI) (cs : List PC) (off : Nat) : Option PE :=
  if i.agg then (if off + i.size ≤ cs.length then some (.a ((cs.drop off).take i.size)) else none) else (cs[off]?).map .c

theorem Addr.add_plain (b o n : Nat) : (Addr.mk b o none).add n = ⟨b, o + n, none⟩ := by
  unfold Addr.add; split
  · rename_i h; subst h; rfl
  · rfl

theorem run_loadVar {P : Program} {w : World} {t : TypeId} {i : TI} (ht : tiOf P t = some i) {b off : Nat} {cs : List PC} {k : Nat} {R : Value → PC → Prop}
    (hc : ∀ j p, cs[k + j]? = some p → ∃ v, w.cell? ⟨b, off + j, none⟩ = some v ∧ R v p) {x : PE} (hx : loadC i cs k = some x) :
    ∃ v, (loadVar t ⟨b, off, none⟩).run P w = .ok v w ∧ (match x with | .c p => R v p | .a ds => ∃ arr, v = .agg arr ∧ All2 R arr.toList ds) := by
  unfold loadC at hx
  simp only [loadVar, Sem.run_bind, run_isAgg ht, Result.andThen_ok, Sem.run_ite]
  by_cases ha : i.agg = true
  · simp only [ha, if_true] at hx ⊢
    split at hx
    case isFalse => simp at hx
    case isTrue hle =>
      simp only [Option.some.injEq] at hx
      subst hx
      have hlen : ∀ j, j < i.size → ∃ p, cs[k + j]? = some p := fun j hj => ⟨cs[k + j]'(by omega), List.getElem?_eq_getElem (by omega)⟩
      have hv : ∀ j, ∃ v, j < i.size → w.cell? ⟨b, off + j, none⟩ = some v ∧ ∀ p, cs[k + j]? = some p → R v p := by
        intro j
        by_cases hj : j < i.size
        · obtain ⟨p, hp⟩ := hlen j hj
          obtain ⟨v, h1, h2⟩ := hc j p hp
          exact ⟨v, fun _ => ⟨h1, fun q hq => by rw [hp] at hq; simp at hq; subst hq; exact h2⟩⟩
        · exact ⟨.nilFunc, fun h => absurd h hj⟩
      let f := fun j => Classical.choose (hv j)
      have hf : ∀ j, j < i.size → w.cell? ⟨b, off + j, none⟩ = some (f j) ∧ ∀ p, cs[k + j]? = some p → R (f j) p := fun j => Classical.choose_spec (hv j)
      have hload := run_loadCells (P := P) w ⟨b, off, none⟩ i.size f (fun j hj => by rw [Addr.add_plain]; exact (hf j hj).1)
      simp only [run_sizeOf ht, Result.andThen_ok, hload, Sem.run_pure]
      refine ⟨_, rfl, _, rfl, ?_⟩
      refine All2.of_get (by simp; omega) fun j h1 h2 => ?_
      simp only [List.length_map, List.length_range] at h1
      simp only [List.getElem_map, List.getElem_range, List.getElem_take, List.getElem_drop]
      exact (hf j h1).2 _ (List.getElem?_eq_getElem (by omega))
  · simp only [Bool.not_eq_true] at ha
    simp only [ha, Bool.false_eq_true, if_false, Option.map_eq_some_iff] at hx ⊢
    obtain ⟨p, hp, rfl⟩ := hx
    obtain ⟨v, h1, h2⟩ := hc 0 p (by simpa using hp)
    refine ⟨v, ?_, h2⟩
    simp only [Nat.add_zero] at h1
    simp only [run_load, h1]

def binI (op : BinOp) (k : IntKind) (a b : Int) : Option PC :=
  match op with
  | .add => some (.int k (k.wrap (a + b)))
  | .sub => some (.int k (k.wrap (a - b)))
  | .mul => some (.int k (k.wrap (a * b)))
  | .quo => if b = 0 then none else some (.int k (k.wrap (a.tdiv b)))
  | .rem => if b = 0 then none else some (.int k (a.tmod b))
  | .and => some (.int k (k.wrap (BitVec.ofInt k.bits a &&& BitVec.ofInt k.bits b).toNat))
  | .or => some (.int k (k.wrap (BitVec.ofInt k.bits a ||| BitVec.ofInt k.bits b).toNat))
  | .eql => some (.bool (a == b))
  | .neq => some (.bool (a != b))
  | .lss => some (.bool (a < b))
  | .leq => some (.bool (a ≤ b))
  | .gtr => some (.bool (a > b))
  | .geq => some (.bool (a ≥ b))
  | _ => none

def shI (op : BinOp) (k : IntKind) (a b : Int) : Option PC :=
  if b < 0 then none else
  match op with
  | .shl => some (.int k (k.wrap (a * 2 ^ (min b.toNat k.bits))))
  | .shr => some (.int k (a.fdiv (2 ^ (min b.toNat k.bits))))
  | _ => none

def binE (T : TypeId → Option TI) (op : BinOp) (t : TypeId) : PE → PE → Option PC
  | .c (.int k a), .c (.int k' b) => match op with
    | .shl | .shr => shI op k a b
    | _ => if k = k' then binI op k a b else none
  | .c (.bool a), .c (.bool b) => match op, (T t).map (·.k) with
    | .eql, some TK.bool => some (.bool (a == b))
    | .neq, some TK.bool => some (.bool (!(a == b)))
    | _, _ => none
  | _, _ => none

def unE (op : UnOp) : PE → Option PC
  | .c (.int k n) => match op with
    | .neg => some (.int k (k.wrap (0 - n)))
    | _ => none
  | .c (.bool b) => match op with
    | .not => some (.bool !b)
    | _ => none
  | _ => none

def splice (cs : List PC) (off : Nat) (xs : List PC) : List PC := cs.take off ++ xs ++ cs.drop (off + xs.length)

def PE.cells : PE → List PC
  | .c p => [p]
  | .a cs => cs

def fillC : List PC → List (Nat × Nat × PE) → Option (List PC)
  | cs, [] => some cs
  | cs, (off, size, x) :: rest => if x.cells.length ≠ size ∨ off + size > cs.length then none else fillC (splice cs off x.cells) rest

def cutB (n c : Nat) (lo hi mx : Option (Option PE)) : Option (Nat × Nat × Option Nat) :=
  let bd (x : Option (Option PE)) (y : Nat) (d : Nat) : Option Nat := match x with
    | none => some d
    | some (some (.c (.int _ i))) => if 0 ≤ i ∧ i ≤ y then some i.toNat else none
    | _ => none
  match mx, hi with
  | some _, none => none
  | none, _ => (bd hi c n).bind fun h => (bd lo h 0).bind fun l => some (l, h, none)
  | some _, _ => (bd mx c c).bind fun m => (bd hi m n).bind fun h => (bd lo h 0).bind fun l => some (l, h, some m)

end Go.PL

namespace Go.PL
open Go.RowKit

inductive A1 where
  | val (v : PV)
  | mk (n : Nat) (cs : List PC)
  | new (v : Nat → PV) (cs : List PC)
  | sto (id off : Nat) (cs : List PC)
  | call (f : FuncId) (args : List PE)
  | app (base : Option (Nat × Nat × Nat × Nat)) (sz : Nat) (z : List PC) (n : Nat) (cs : List PC)
  | bad

def A1.ofPV : Option PV → A1
  | some v => .val v
  | none => .bad
def A1.ofPE : Option PE → A1
  | some v => .val (.e v)
  | none => .bad
def A1.ofPC : Option PC → A1
  | some v => .val (.e (.c v))
  | none => .bad

def St.peAll (s : St) : List Operand → Option (List PE)
  | [] => some []
  | x :: l => match s.pe x, s.peAll l with
    | some p, some ps => some (p :: ps)
    | _, _ => none

def St.peO (s : St) : Option Operand → Option (Option PE)
  | none => none
  | some x => some (s.pe x)

def loadA (i : TI) (σ : List Box) : Option PE → Option PE
  | some (.c (.ptr id off)) => match σ[id]? with
    | some b => match b.cells? with
      | some cs => loadC i cs off
      | none => none
    | none => none
  | some (.c (.iptr cs)) => loadC i cs 0
  | _ => none

def fieldA (i : TI) (f : Nat) : Option PE → Option PC
  | some (.c (.ptr id off)) => match i.k with
    | .struct fs => match fs[f]? with
      | some (o, n, _) => if n = 0 then none else some (.ptr id (off + o))
      | none => none
    | _ => none
  | some (.c (.iptr cs)) => match i.k with
    | .struct fs => match fs[f]? with
      | some (o, n, _) => if n = 0 then none else some (.iptr (cs.drop o))
      | none => none
    | _ => none
  | _ => none

def partC (agg : Bool) (cs : List PC) (off n : Nat) : Option PE :=
  if agg then (if off + n ≤ cs.length then some (.a ((cs.drop off).take n)) else none) else (cs[off]?).map .c

def fieldV (i : TI) (f : Nat) : Option PE → Option PE
  | some (.a cs) => match i.k with
    | .struct fs => match fs[f]? with
      | some (o, n, g) => partC g cs o n
      | none => none
    | _ => none
  | _ => none

def indexA (i : TI) (s : Nat) : Option PE → Option PE → Option PC
  | some (.c (.sl n cs)), some (.c (.int _ j)) => match i.k with
    | .slice _ => if 0 ≤ j ∧ j < n then some (.iptr ((cs.drop (j.toNat * s)).take s)) else none
    | _ => none
  | some (.c (.msl id off len _ _)), some (.c (.int _ j)) => match i.k with
    | .slice _ => if 0 ≤ j ∧ j < len then some (.ptr id (off + j.toNat * s)) else none
    | _ => none
  | some (.c (.ptr id off)), some (.c (.int _ j)) => match i.k with
    | .array len _ => if 0 ≤ j ∧ j < len then some (.ptr id (off + j.toNat * s)) else none
    | _ => none
  | some (.c (.iptr cs)), some (.c (.int _ j)) => match i.k with
    | .array len _ => if 0 ≤ j ∧ j < len then some (.iptr (cs.drop (j.toNat * s))) else none
    | _ => none
  | _, _ => none

def elemOfK : TK → Option TypeId
  | .slice e | .array _ e => some e
  | _ => none

def cutA (s : Nat) (lo hi mx : Option (Option PE)) : Option PE → Option PC
  | some (.c .nils) => match cutB 0 0 lo hi mx with
    | some _ => some .nils
    | none => none
  | some (.c (.sl n cs)) => match cutB n n lo hi mx with
    | some (l, h, _) => some (.sl (h - l) ((cs.drop (l * s)).take ((h - l) * s)))
    | none => none
  | some (.c (.msl id off len cap sz)) => match cutB len cap lo hi mx with
    | some (l, h, m) => some (.msl id (if m.getD cap = l then off else off + l * s) (h - l) (m.getD cap - l) sz)
    | none => none
  | _ => none

def places (fs : List (Nat × Nat × Bool)) (s : St) : List (Nat × Operand) → Option (List (Nat × Nat × PE))
  | [] => some []
  | (j, x) :: l => match fs[j]?, s.pe x, places fs s l with
    | some (o, n, _), some p, some ps => some ((o, n, p) :: ps)
    | _, _, _ => none

def placesN (size : Nat) (s : St) : List (Nat × Operand) → Option (List (Nat × Nat × PE))
  | [] => some []
  | (j, x) :: l => match s.pe x, placesN size s l with
    | some p, some ps => some ((j * size, size, p) :: ps)
    | _, _ => none

def repC (n : Nat) (z : List PC) : List PC := (List.replicate n z).flatten

def lenC : Option PE → Option PC
  | some (.c .nils) => some (.int .i64 0)
  | some (.c (.sl n _)) => some (.int .i64 n)
  | some (.c (.msl _ _ n _ _)) => some (.int .i64 n)
  | _ => none

def slCells (σ : List Box) (size : Nat) : Option PE → Option (Nat × List PC)
  | some (.c .nils) => some (0, [])
  | some (.c (.sl n cs)) => if cs.length = n * size then some (n, cs) else none
  | some (.c (.msl id off len _ sz)) => match σ[id]? with
    | some b => match b.cells? with
      | some cs => if sz = size ∧ off + len * size ≤ cs.length then some (len, (cs.drop off).take (len * size)) else none
      | none => none
    | none => none
  | _ => none

noncomputable def appA (mb : Bool) (σ : List Box) (ei : TI) (x y : Option PE) : A1 :=
  match slCells σ ei.size y, ei.zero with
  | some (n, cs), some z => match x with
    | some (.c .nils) => @ite A1 ((2 * n + 1000) * ei.bytes > 2 ^ 48 ∨ ei.bytes = 0 ∨ z.length ≠ ei.size) (Classical.propDecidable _) .bad (if mb then .app none ei.size z n cs else if cs.all PC.im then .mk n cs else .bad)
    | some (.c (.msl id off len cap sz)) => @ite A1 ((2 * (len + n) + 1000) * ei.bytes > 2 ^ 48 ∨ ei.bytes = 0 ∨ z.length ≠ ei.size ∨ sz ≠ ei.size) (Classical.propDecidable _) .bad (.app (some (id, off, len, cap)) sz z n cs)
    | _ => .bad
  | _, _ => .bad

def evB (P : Program) (s : St) (b : Builtin) (args : List Operand) (ts : Array TypeId) : A1 :=
  match b, args with
  | .len, [x] => match (ts[0]?).bind (tiOf P) with
    | some i => match i.k with
      | .slice _ => A1.ofPC (lenC (s.pe x))
      | _ => .bad
    | none => .bad
  | .min, [x, y] => match s.pe x, s.pe y with
    | some (.c (.int k a)), some (.c (.int _ b)) => .val (.e (.c (.int k (if b < a then b else a))))
    | _, _ => .bad
  | .max, [x, y] => match s.pe x, s.pe y with
    | some (.c (.int k a)), some (.c (.int _ b)) => .val (.e (.c (.int k (if a < b then b else a))))
    | _, _ => .bad
  | _, _ => .bad

def ptrsOf : List PE → Option (List (Nat × Nat))
  | [] => some []
  | .c (.ptr id off) :: l => (ptrsOf l).map ((id, off) :: ·)
  | _ => none
def evF : Fn → List Operand → Option (List (Nat × Nat)) → A1
  | .func g, [], some ps => .val (.e (.c (.clo g ps)))
  | _, _, _ => .bad

noncomputable def evA (P : Program) (mb : Bool) (s : St) : Op → A1
  | .move x | .assign x => A1.ofPV (s.pv x)
  | .pick c a b => match s.pe c with
    | some (.c (.bool t)) => A1.ofPV (if t then s.pv a else s.pv b)
    | _ => .bad
  | .alloc t => match tiOf P t with
    | some i => match i.zero with
      | some z => .new (fun id => .e (.c (.ptr id 0))) z
      | none => .bad
    | none => .bad
  | .box _ x => match s.pe x with
    | some p => .new (fun id => .e (.c (.ptr id 0))) p.cells
    | none => .bad
  | .build t parts => match tiOf P t with
    | some i => match i.zero, i.k with
      | some z, .struct fs => match places fs s parts.toList with
        | some ps => A1.ofPE ((fillC z ps).map .a)
        | none => .bad
      | _, _ => .bad
    | none => .bad
  | .buildSlice t len parts => match tiOf P t with
    | some i => match i.k with
      | .slice e => match tiOf P e with
        | some ei => match ei.zero with
          | some z => match placesN ei.size s parts.toList with
            | some ps => match fillC (repC len z) ps with
              | some cs => if len * ei.size > 2 ^ 24 ∨ z.length ≠ ei.size then .bad else if mb then .new (fun id => .e (.c (.msl id 0 len len ei.size))) cs else if cs.all PC.im then .mk len cs else .bad
              | none => .bad
            | none => .bad
          | none => .bad
        | none => .bad
      | _ => .bad
    | none => .bad
  | .load t x => match tiOf P t with
    | some i => A1.ofPE (loadA i s.st (s.pe x))
    | none => .bad
  | .store t x y => match s.pe x, s.pe y, tiOf P t with
    | some (.c (.ptr id off)), some p, some i => if p.cells.length = i.size then .sto id off p.cells else .bad
    | _, _, _ => .bad
  | .nilCheck x => match s.pe x with
    | some (.c (.ptr id off)) => .val (.e (.c (.ptr id off)))
    | some (.c (.iptr cs)) => .val (.e (.c (.iptr cs)))
    | _ => .bad
  | .binOp op t x y _ => match s.pe x, s.pe y with
    | some p, some q => A1.ofPC (binE (tiOf P) op t p q)
    | _, _ => .bad
  | .unOp op _ x => match s.pe x with
    | some p => A1.ofPC (unE op p)
    | none => .bad
  | .convert src dst x => match s.pe x, tiOf P src, tiOf P dst with
    | some (.c (.int _ n)), some _, some i => match i.k with
      | .int k => .val (.e (.c (.int k (k.wrap n))))
      | _ => .bad
    | _, _, _ => .bad
  | .makeSlice t l c => match tiOf P t with
    | some i => match i.k with
      | .slice e => match tiOf P e, s.pe l, s.pe c with
        | some ei, some (.c (.int .i64 n)), some (.c (.int .i64 m)) => match ei.zero with
          | some z => @ite A1 (0 ≤ n ∧ n ≤ m ∧ m * ei.bytes ≤ 2 ^ 47 ∧ m < 2 ^ 62 ∧ z.length = ei.size) (Classical.propDecidable _) (.new (fun id => .e (.c (.msl id 0 n.toNat m.toNat ei.size))) (repC m.toNat z)) .bad
          | none => .bad
        | _, _, _ => .bad
      | _ => .bad
    | none => .bad
  | .slice t x lo hi mx => match tiOf P t with
    | some i => match i.k with
      | .slice e => match tiOf P e with
        | some ei => A1.ofPC (cutA ei.size (s.peO lo) (s.peO hi) (s.peO mx) (s.pe x))
        | none => .bad
      | _ => .bad
    | none => .bad
  | .fieldAddr t x f => match tiOf P t with
    | some i => A1.ofPC (fieldA i f (s.pe x))
    | none => .bad
  | .field t x f => match tiOf P t with
    | some i => A1.ofPE (fieldV i f (s.pe x))
    | none => .bad
  | .indexAddr t x j => match tiOf P t with
    | some i => match elemOfK i.k with
      | some e => match tiOf P e with
        | some ei => A1.ofPC (indexA i ei.size (s.pe x) (s.pe j))
        | none => .bad
      | none => .bad
    | none => .bad
  | .makeFunc f b cs => evF f b.toList ((s.peAll cs.toList).bind ptrsOf)
  | .extract x j => match s.tu x with
    | some xs => A1.ofPE xs[j]?
    | none => .bad
  | .call c => match c.callee with
    | .builtin .append => match c.args.toList, c.argTypes.toList with
      | [x, y], [t, u] => match tiOf P t, tiOf P u with
        | some i, some ui => match i.k, ui.k with
          | .slice e, .slice _ => match tiOf P e with
            | some ei => appA mb s.st ei (s.pe x) (s.pe y)
            | none => .bad
          | _, _ => .bad
        | _, _ => .bad
      | _, _ => .bad
    | .builtin b => evB P s b c.args.toList c.argTypes
    | .value f => match s.pe f, s.peAll c.args.toList with
      | some (.c (.fn g)), some l => .call g (l.map PE.norm)
      | some (.c (.clo g ps)), some l => .call g (l.map PE.norm ++ ps.map fun p => .c (.ptr p.1 p.2))
      | _, _ => .bad
    | .invoke _ _ => .bad
  | _ => .bad

end Go.PL

namespace Go.PL
open Go.RowKit

section
variable {P : Program} {G : GMem} {bl : Nat → Nat} {a : Act} {w : World} {s : St}

theorem A1.ofPV_val {x : Option PV} {v : PV} (h : A1.ofPV x = .val v) : x = some v := by
  cases x <;> simp [A1.ofPV] at h; rw [h]
theorem A1.ofPE_val {x : Option PE} {v : PV} (h : A1.ofPE x = .val v) : ∃ p, x = some p ∧ v = .e p := by
  cases x <;> simp [A1.ofPE] at h; exact ⟨_, rfl, h.symm⟩
theorem A1.ofPC_val {x : Option PC} {v : PV} (h : A1.ofPC x = .val v) : ∃ p, x = some p ∧ v = .e (.c p) := by
  cases x <;> simp [A1.ofPC] at h; exact ⟨_, rfl, h.symm⟩

def Gives (P : Program) (G : GMem) (bl : Nat → Nat) (a : Act) (w : World) (s : St) (o : Oper) (v : PV) : Prop :=
  ∃ u, (execOp a.eval o).run P w = .ok (.value u) w ∧ RepV G bl (There s.st) u v

theorem IRep.int_inv {u : Value} {k : IntKind} {n : Int} (h : IRep G u (.int k n)) : u = .int k n := by
  cases h; rfl
theorem IRep.bool_inv {u : Value} {b : Bool} (h : IRep G u (.bool b)) : u = .bool b := by
  cases h; rfl
theorem IRep.iptr_inv {u : Value} {cs : List PC} (h : IRep G u (.iptr cs)) : ∃ (b off : Nat) (us : Nat → Value), u = .pointer (some ⟨b, off, none⟩) ∧ (∀ i, i < cs.length → G b (off + i) = some (us i)) ∧
    ∀ i (h : i < cs.length), IRep G (us i) cs[i] := by
  cases h with
  | iptr b off _ us h1 h2 => exact ⟨b, off, us, rfl, h1, h2⟩
theorem IRep.sl_inv {u : Value} {n : Nat} {cs : List PC} (h : IRep G u (.sl n cs)) : ((u = .slice none 0 0 ∨ ∃ a, u = .slice (some a) 0 0) ∧ n = 0 ∧ cs = []) ∨ ∃ (b off cap : Nat) (us : Nat → Value), u = .slice (some ⟨b, off, none⟩) n cap ∧ n ≤ cap ∧
    (∀ i, i < cs.length → G b (off + i) = some (us i)) ∧ ∀ i (h : i < cs.length), IRep G (us i) cs[i] := by
  cases h with
  | nil => exact .inl ⟨.inl rfl, rfl, rfl⟩
  | slz a => exact .inl ⟨.inr ⟨a, rfl⟩, rfl, rfl⟩
  | sl b off _ cap _ us hc h1 h2 => exact .inr ⟨b, off, cap, us, rfl, hc, h1, h2⟩
theorem IRep.nils_inv {u : Value} (h : IRep G u .nils) : u = .slice none 0 0 := by
  cases h; rfl
theorem IRep.fn_inv {u : Value} {f : FuncId} (h : IRep G u (.fn f)) : u = .func (.func f) #[] #[] := by
  cases h; rfl

theorem RelS.loadA (h : RelS G bl w s.st) {t : TypeId} {i : TI} (ht : tiOf P t = some i) {u : Value} {p : PE} (hu : RepE G bl (There s.st) u p) {x : PE} (hx : loadA i s.st (some p) = some x) :
    ∃ v, (Instr.loadAt t u).run P w = .ok v w ∧ RepE G bl (There s.st) v x := by
  have fin : ∀ {b off k : Nat} {cs : List PC} (_ : ∀ j q, cs[k + j]? = some q → ∃ v, w.cell? ⟨b, off + j, none⟩ = some v ∧ RepC G bl (There s.st) v q) (_ : loadC i cs k = some x),
      ∃ v, (Instr.loadAt t (.pointer (some ⟨b, off, none⟩))).run P w = .ok v w ∧ RepE G bl (There s.st) v x := by
    intro b off k cs hc hl
    obtain ⟨v, h1, h2⟩ := run_loadVar (P := P) (w := w) ht hc hl
    refine ⟨v, ?_, ?_⟩
    · simp only [Instr.loadAt, Instr.sureAddr, Sem.run_bind, Sem.run_pure, Result.andThen_ok, h1]
    · cases x <;> exact h2
  unfold PL.loadA at hx
  split at hx
  · rename_i id off heq
    simp only [Option.some.injEq] at heq
    subst heq
    obtain ⟨hL, rfl⟩ := hu
    split at hx <;> try simp at hx
    rename_i b hb
    split at hx <;> try simp at hx
    rename_i cs hcs
    exact fin (fun j q hq => h.cell hb hcs hq) hx
  · rename_i cs heq
    simp only [Option.some.injEq] at heq
    subst heq
    cases (show IRep G u (.iptr cs) from hu) with
    | iptr b off _ us h1 h2 =>
      refine fin (k := 0) (fun j q hq => ?_) hx
      simp only [Nat.zero_add] at hq
      have hj : j < cs.length := by
        rcases Nat.lt_or_ge j cs.length with q' | q'
        · exact q'
        · rw [List.getElem?_eq_none q'] at hq; simp at hq
      refine ⟨us j, h.agree _ _ _ (h1 j hj), ?_⟩
      rw [List.getElem?_eq_getElem hj, Option.some.injEq] at hq
      rw [← hq]
      exact RepC.of_irep (h2 j hj)
  · simp at hx

theorem under_struct {t : TypeId} {i : TI} (ht : tiOf P t = some i) {fs : List (Nat × Nat × Bool)} (hk : i.k = .struct fs) :
    ∃ flds : Array Field, P.underlying t = some (.struct flds) ∧ (fs = flds.toList.map fun f => (f.offset, P.cellsOf f.type, aggB P f.type)) ∧ ∀ f ∈ flds, (P.underlying f.type).isSome = true ∧ P.cellsOf f.type ≠ 0 := by
  obtain ⟨inf, u, h1, h2, _, _, _, _, h3⟩ := tiOf_parts ht
  rw [hk] at h3
  cases u <;> simp at h3
  split at h3 <;> simp at h3
  rename_i hall
  exact ⟨_, h2, h3, fun f hf => by obtain ⟨i, hi, rfl⟩ := Array.getElem_of_mem hf; exact hall i hi⟩
theorem under_slice {t : TypeId} {i : TI} (ht : tiOf P t = some i) {e : TypeId} (hk : i.k = .slice e) : P.underlying t = some (.slice e) := by
  obtain ⟨inf, u, h1, h2, _, _, _, _, h3⟩ := tiOf_parts ht
  rw [hk] at h3
  cases u <;> simp at h3 <;> try (split at h3 <;> simp at h3; done)
  subst h3; exact h2
theorem under_array {t : TypeId} {i : TI} (ht : tiOf P t = some i) {n : Nat} {e : TypeId} (hk : i.k = .array n e) : P.underlying t = some (.array n e) := by
  obtain ⟨inf, u, h1, h2, _, _, _, _, h3⟩ := tiOf_parts ht
  rw [hk] at h3
  cases u <;> simp at h3 <;> try (split at h3 <;> simp at h3; done)
  obtain ⟨rfl, rfl⟩ := h3; exact h2
theorem under_int {t : TypeId} {i : TI} (ht : tiOf P t = some i) {k : IntKind} (hk : i.k = .int k) : P.underlying t = some (.int k) := by
  obtain ⟨inf, u, h1, h2, _, _, _, _, h3⟩ := tiOf_parts ht
  rw [hk] at h3
  cases u <;> simp at h3 <;> try (split at h3 <;> simp at h3; done)
  subst h3; exact h2
theorem under_bool {t : TypeId} {i : TI} (ht : tiOf P t = some i) (hk : i.k = .bool) : P.underlying t = some .bool := by
  obtain ⟨inf, u, h1, h2, _, _, _, _, h3⟩ := tiOf_parts ht
  rw [hk] at h3
  cases u <;> simp at h3 <;> try (split at h3 <;> simp at h3; done)
  exact h2
theorem under_some {t : TypeId} {i : TI} (ht : tiOf P t = some i) : ∃ u, P.underlying t = some u := by
  obtain ⟨inf, u, h1, h2, _⟩ := tiOf_parts ht
  exact ⟨u, h2⟩

theorem info_size {t : TypeId} {n : Nat} (h : P.cellsOf t = n) (hn : n ≠ 0) : (P.info? t).map (·.size) = some n := by
  unfold Program.cellsOf at h
  cases hi : (P.info? t).map (·.size) with
  | none => rw [hi] at h; simp at h; omega
  | some m => rw [hi] at h; simp at h; rw [h]

theorem run_fieldAt {t : TypeId} {i : TI} (ht : tiOf P t = some i) {L : Nat → Prop} {u : Value} {p : PE} (hu : RepE G bl L u p) {f : Nat} {x : PC} (hx : fieldA i f (some p) = some x) :
    ∃ v, (Instr.fieldAt t u f).run P w = .ok v w ∧ RepC G bl L v x := by
  have main : ∀ {fs : List (Nat × Nat × Bool)} {o n : Nat} {g : Bool} {b off : Nat}, i.k = .struct fs → fs[f]? = some (o, n, g) → n ≠ 0 →
      (Instr.fieldAt t (.pointer (some ⟨b, off, none⟩)) f).run P w = .ok (.pointer (some ⟨b, off + o, none⟩)) w := by
    intro fs o n g b off hk hf hn
    obtain ⟨flds, hU, hfs, _⟩ := under_struct ht hk
    rw [hfs, List.getElem?_map, Option.map_eq_some_iff] at hf
    obtain ⟨fd, hfd, heq⟩ := hf
    simp only [Prod.mk.injEq] at heq
    obtain ⟨h1, h2, h3⟩ := heq
    have hfd' : flds[f]? = some fd := by rw [← Array.getElem?_toList]; exact hfd
    have hsz := info_size h2 hn
    simp only [Instr.fieldAt, Sem.run_bind, run_under hU, Result.andThen_ok, hfd', Instr.sureAddr, Sem.run_pure, fieldPlace, run_sizeOf' hsz, Sem.run_ite, if_neg hn, Addr.add_plain, h1]
  unfold fieldA at hx
  split at hx
  · rename_i id off heq
    simp only [Option.some.injEq] at heq
    subst heq
    obtain ⟨hL, rfl⟩ := hu
    split at hx <;> try simp at hx
    rename_i fs hk
    split at hx <;> try simp at hx
    rename_i o n g hf
    obtain ⟨hn, rfl⟩ := hx
    exact ⟨_, main hk hf hn, hL, rfl⟩
  · rename_i cs heq
    simp only [Option.some.injEq] at heq
    subst heq
    split at hx <;> try simp at hx
    rename_i fs hk
    split at hx <;> try simp at hx
    rename_i o n g hf
    obtain ⟨hn, rfl⟩ := hx
    cases (show IRep G u (.iptr cs) from hu) with
    | iptr b off _ us h1 h2 =>
      refine ⟨_, main hk hf hn, ?_⟩
      refine IRep.iptr b (off + o) _ (fun j => us (o + j)) (fun j hj => ?_) (fun j hj => ?_)
      · rw [Nat.add_assoc]; exact h1 _ (by simp at hj; omega)
      · simp only [List.getElem_drop]; exact h2 _ _
  · simp at hx

theorem run_part {t : TypeId} {arr : Array Value} {cs : List PC} {R : Value → PC → Prop} (ha : All2 R arr.toList cs) {off n : Nat} {g : Bool} (hg : g = aggB P t) (hn : P.cellsOf t = n) (hn0 : n ≠ 0)
    (hu : (P.underlying t).isSome = true) {x : PE} (hx : partC g cs off n = some x) : ∃ v, (part t arr off).run P w = .ok v w ∧ (match x with | .c p => R v p | .a ds => ∃ arr', v = .agg arr' ∧ All2 R arr'.toList ds) := by
  unfold partC at hx
  simp only [part, Sem.run_bind, run_isAgg' hu, Result.andThen_ok, Sem.run_ite, ← hg]
  have hlen := ha.length
  cases g with
  | true =>
    simp only [if_true] at hx ⊢
    split at hx
    case isFalse => simp at hx
    case isTrue hle =>
      simp only [Option.some.injEq] at hx
      subst hx
      simp only [run_sizeOf' (info_size hn hn0), Result.andThen_ok, Sem.run_pure]
      refine ⟨_, rfl, _, rfl, ?_⟩
      have := (ha.drop off).take n
      rw [Array.toList_extract, List.extract_eq_take_drop]
      simpa using this
  | false =>
    simp only [Bool.false_eq_true, if_false, Option.map_eq_some_iff] at hx ⊢
    obtain ⟨p, hp, rfl⟩ := hx
    obtain ⟨v, hv, r⟩ := ha.get off p hp
    have : arr[off]? = some v := by rw [← Array.getElem?_toList]; exact hv
    exact ⟨v, by simp [this], r⟩

theorem run_binOp {t : TypeId} {x y : Operand} {op : BinOp} {u v : Value} {p q : PE} {L : Nat → Prop} (hu : RepE G bl L u p) (hv : RepE G bl L v q) {r : PC} (hr : binE (tiOf P) op t p q = some r) :
    ∃ z, (do eqGuard op t x y u v; binOp op t u v : Sem Value).run P w = .ok z w ∧ RepC G bl L z r := by
  unfold binE at hr
  split at hr
  · rename_i k m k' n
    obtain rfl := IRep.int_inv hu
    obtain rfl := IRep.int_inv hv
    have hg : (eqGuard op t x y (.int k m) (.int k' n)).run P w = .ok () w := by
      unfold eqGuard; cases op <;> rfl
    rw [Sem.run_bind, hg, Result.andThen_ok]
    have sh : ∀ (hop : op = .shl ∨ op = .shr), shI op k m n = some r → ∃ z, (binOp op t (.int k m) (.int k' n)).run P w = .ok z w ∧ RepC G bl L z r := by
      intro hop hs
      unfold shI at hs
      split at hs
      · simp at hs
      · rename_i hneg
        rcases hop with rfl | rfl <;> simp only [Option.some.injEq] at hs <;> subst hs <;> refine ⟨_, ?_, IRep.int _ _⟩ <;> simp [binOp, Op.shift, hneg]
    split at hr
    · exact sh (.inl rfl) hr
    · exact sh (.inr rfl) hr
    · rename_i h1 h2
      split at hr
      case isFalse => simp at hr
      case isTrue hk =>
        subst hk
        unfold binI at hr
        split at hr <;> first | (exfalso; exact h1 rfl) | (exfalso; exact h2 rfl) | skip
        case h_4 => split at hr <;> simp at hr; rename_i hb; subst hr; exact ⟨_, by simp [binOp, Op.intDiv, hb], IRep.int _ _⟩
        case h_5 => split at hr <;> simp at hr; rename_i hb; subst hr; exact ⟨_, by simp [binOp, Op.intDiv, hb], IRep.int _ _⟩
        case h_6 => simp only [Option.some.injEq] at hr; subst hr; exact ⟨_, by unfold binOp; simp only [ne_eq, not_true_eq_false, if_false]; rfl, IRep.int _ _⟩
        case h_7 => simp only [Option.some.injEq] at hr; subst hr; exact ⟨_, by unfold binOp; simp only [ne_eq, not_true_eq_false, if_false]; rfl, IRep.int _ _⟩
        all_goals (try (simp only [Option.some.injEq] at hr; subst hr; first | exact ⟨_, by simp [binOp, Op.intArith], IRep.int _ _⟩ | exact ⟨_, by simp [binOp, Op.intCmp], IRep.bool _⟩))
        simp at hr
  · rename_i b c
    obtain rfl := IRep.bool_inv hu
    obtain rfl := IRep.bool_inv hv
    have hg : (eqGuard op t x y (.bool b) (.bool c)).run P w = .ok () w := by
      unfold eqGuard; cases op <;> rfl
    rw [Sem.run_bind, hg, Result.andThen_ok]
    have eq : (∃ i, tiOf P t = some i ∧ i.k = .bool) → (Op.equal t (.bool b) (.bool c)).run P w = .ok (b == c) w := by
      rintro ⟨i, hi, hk⟩
      have hU := under_bool hi hk
      unfold Op.equal
      rw [show Op.maxDepth = 9999 + 1 from rfl]
      unfold Op.equalIn
      simp [run_under hU]
    split at hr
    · rename_i hk
      simp only [Option.map_eq_some_iff] at hk
      simp only [Option.some.injEq] at hr; subst hr
      exact ⟨_, by simp [binOp, eq hk], IRep.bool _⟩
    · rename_i hk
      simp only [Option.map_eq_some_iff] at hk
      simp only [Option.some.injEq] at hr; subst hr
      exact ⟨_, by simp [binOp, eq hk], IRep.bool _⟩
    · simp at hr
  · simp at hr

def OptRep (G : GMem) (bl : Nat → Nat) (L : Nat → Prop) : Option Value → Option (Option PE) → Prop
  | none, none => True
  | some v, some (some p) => RepE G bl L v p
  | some _, some none => True
  | _, _ => False

theorem run_bound {L : Nat → Prop} {v : Value} {k : IntKind} {i : Int} {y : Nat} {c : BoundsCode} (h : RepE G bl L v (.c (.int k i))) (h0 : 0 ≤ i) (h1 : i ≤ y) : (Instr.sliceBound v y c).run P w = .ok i.toNat w := by
  obtain rfl := IRep.int_inv h
  simp [Instr.sliceBound, asIntOf, h0, h1]

theorem run_sliceBounds {L : Nat → Prop} {lo hi mx : Option Value} {plo phi pmx : Option (Option PE)} (hlo : OptRep G bl L lo plo) (hhi : OptRep G bl L hi phi) (hmx : OptRep G bl L mx pmx)
    {n c cap l h : Nat} {m : Option Nat} (hc : c ≤ cap) (hb : cutB n c plo phi pmx = some (l, h, m)) : (Instr.sliceBounds true n cap lo hi mx).run P w = .ok (l, h, m.getD cap) w := by
  have bd : ∀ {x : Option Value} {px : Option (Option PE)} {y d r : Nat} {code : BoundsCode}, OptRep G bl L x px →
      (match px with | none => some d | some (some (.c (.int _ i))) => if 0 ≤ i ∧ i ≤ y then some i.toNat else none | _ => none) = some r → ∀ y', y ≤ y' →
      (match x with | some v => (Instr.sliceBound v y' code).run P w | none => .ok d w) = .ok r w := by
    intro x px y d r code hx hr y' hy
    cases x with
    | none =>
      cases px with
      | none => simp at hr; simp [hr]
      | some q => exact hx.elim
    | some v =>
      cases px with
      | none => exact hx.elim
      | some q =>
        cases q with
        | none => simp at hr
        | some p =>
          split at hr <;> simp_all
          obtain ⟨h1, h2⟩ := hr
          rename_i heq
          obtain ⟨rfl⟩ := heq
          rw [← h2]
          exact run_bound (bl := bl) (L := L) hx h1.1 (by omega)
  cases pmx with
  | none =>
    cases mx with
    | some v => exact hmx.elim
    | none =>
      have hb' := hb
      unfold cutB at hb'
      cases phi with
      | none =>
        cases hi with
        | some v => exact hhi.elim
        | none =>
          simp only [Option.bind_some, Option.bind_eq_some_iff, Option.some.injEq, Prod.mk.injEq] at hb'
          obtain ⟨l', h1, rfl, rfl, rfl⟩ := hb'
          have := bd (code := .sliceB) hlo h1 n (Nat.le_refl _)
          unfold Instr.sliceBounds
          cases lo with
          | none => simp at this ⊢; exact this
          | some v => simp at this ⊢; simp [this]
      | some ph =>
        cases hi with
        | none => exact hhi.elim
        | some vh =>
          simp only [Option.bind_eq_some_iff, Option.some.injEq, Prod.mk.injEq] at hb'
          obtain ⟨h', h0, l', h1, rfl, rfl, rfl⟩ := hb'
          have e0 := bd (d := n) (code := .sliceAcap) hhi h0 cap hc
          have e1 := bd (code := .sliceB) hlo h1 h' (Nat.le_refl _)
          unfold Instr.sliceBounds
          cases lo with
          | none => simp at e0 e1 ⊢; simp [e0, e1]
          | some v => simp at e0 e1 ⊢; simp [e0, e1]
  | some pm =>
    cases mx with
    | none => exact hmx.elim
    | some vm =>
      cases phi with
      | none => simp [cutB] at hb
      | some ph =>
        cases hi with
        | none => exact hhi.elim
        | some vh =>
          have hb' := hb
          unfold cutB at hb'
          simp only [Option.bind_eq_some_iff, Option.some.injEq, Prod.mk.injEq] at hb'
          obtain ⟨m', hm, h', h0, l', h1, rfl, rfl, rfl⟩ := hb'
          have em := bd (d := c) (code := .slice3Acap) hmx hm cap hc
          have e0 := bd (d := n) (code := .slice3B) hhi h0 m' (Nat.le_refl _)
          have e1 := bd (code := .slice3C) hlo h1 h' (Nat.le_refl _)
          unfold Instr.sliceBounds
          cases lo with
          | none => simp at em e0 e1 ⊢; simp [em, e0, e1]
          | some v => simp at em e0 e1 ⊢; simp [em, e0, e1]

theorem cutB_le {n c l h : Nat} {m : Option Nat} {lo hi mx : Option (Option PE)} (hn : n ≤ c) (hb : cutB n c lo hi mx = some (l, h, m)) : l ≤ h ∧ (∀ k, m = some k → h ≤ k ∧ k ≤ c) ∧ h ≤ c := by
  have bd : ∀ {px : Option (Option PE)} {y d r : Nat}, d ≤ y →
      (match px with | none => some d | some (some (.c (.int _ i))) => if 0 ≤ i ∧ i ≤ y then some i.toNat else none | _ => none) = some r → r ≤ y := by
    intro px y d r hd hr
    split at hr <;> simp at hr <;> omega
  unfold cutB at hb
  cases mx with
  | none =>
    simp only [Option.bind_eq_some_iff, Option.some.injEq, Prod.mk.injEq] at hb
    obtain ⟨h', h0, l', h1, rfl, rfl, rfl⟩ := hb
    exact ⟨bd (Nat.zero_le _) h1, fun k hk => by simp at hk, bd hn h0⟩
  | some pm =>
    cases hi with
    | none => simp at hb
    | some ph =>
      simp only [Option.bind_eq_some_iff, Option.some.injEq, Prod.mk.injEq] at hb
      obtain ⟨m', hm, h', h0, l', h1, rfl, rfl, rfl⟩ := hb
      have a1 := bd (px := some pm) (Nat.le_refl c) hm
      have a2 : h' ≤ m' := by
        revert h0
        rcases ph with _ | p
        · intro h0; simp at h0
        · intro h0
          split at h0
          · rename_i heq; simp at heq
          · split at h0 <;> simp at h0
            omega
          · simp at h0
      exact ⟨bd (Nat.zero_le _) h1, fun k hk => by simp at hk; subst hk; exact ⟨a2, a1⟩, by omega⟩

theorem run_cut {t : TypeId} {i ei : TI} (ht : tiOf P t = some i) {e : TypeId} (hk : i.k = .slice e) (he : tiOf P e = some ei) {L : Nat → Prop} {u : Value} {p : PE} (hu : RepE G bl L u p)
    {lo hi mx : Option Value} {plo phi pmx : Option (Option PE)} (hlo : OptRep G bl L lo plo) (hhi : OptRep G bl L hi phi) (hmx : OptRep G bl L mx pmx) {x : PC} (hx : cutA ei.size plo phi pmx (some p) = some x) :
    ∃ v, (Instr.sliceAt t u lo hi mx).run P w = .ok v w ∧ RepC G bl L v x := by
  have hU := under_slice ht hk
  unfold cutA at hx
  split at hx
  · rename_i heq
    simp only [Option.some.injEq] at heq
    subst heq
    split at hx <;> simp at hx
    rename_i lhm hb
    obtain ⟨l, h, m⟩ := lhm
    subst hx
    have hle := cutB_le (Nat.le_refl 0) hb
    obtain rfl := IRep.nils_inv hu
    have hr := run_sliceBounds (P := P) (w := w) hlo hhi hmx (Nat.le_refl 0) hb
    refine ⟨.slice none 0 0, ?_, IRep.nils⟩
    simp only [Instr.sliceAt, Instr.slice, Sem.run_bind, run_under hU, Result.andThen_ok, hr, run_sizeOf he, Sem.run_pure, Option.map_none]
    have : m.getD 0 = 0 := by cases m with | none => rfl | some k => have := (hle.2.1 k rfl).2; simp; omega
    have h0 : h = 0 := by omega
    have l0 : l = 0 := by omega
    simp [this, h0, l0]
  · rename_i n cs heq
    simp only [Option.some.injEq] at heq
    subst heq
    split at hx <;> simp at hx
    rename_i l h m hb
    subst hx
    have hle := cutB_le (Nat.le_refl n) hb
    cases (show IRep G u (.sl n cs) from hu) with
    | nil =>
      have hr := run_sliceBounds (P := P) (w := w) hlo hhi hmx (Nat.le_refl 0) hb
      refine ⟨.slice none 0 0, ?_, ?_⟩
      · simp only [Instr.sliceAt, Instr.slice, Sem.run_bind, run_under hU, Result.andThen_ok, hr, run_sizeOf he, Sem.run_pure, Option.map_none]
        have : m.getD 0 = 0 := by cases m with | none => rfl | some k => have := (hle.2.1 k rfl).2; simp; omega
        have h0 : h = 0 := by omega
        have l0 : l = 0 := by omega
        simp [this, h0, l0]
      · have h0 : h = 0 := by omega
        subst h0
        simp
        exact IRep.nil
    | slz a =>
      have hr := run_sliceBounds (P := P) (w := w) hlo hhi hmx (Nat.le_refl 0) hb
      refine ⟨.slice (some a) 0 0, ?_, ?_⟩
      · simp only [Instr.sliceAt, Instr.slice, Sem.run_bind, run_under hU, Result.andThen_ok, hr, run_sizeOf he, Sem.run_pure, Option.map_some]
        have : m.getD 0 = 0 := by cases m with | none => rfl | some k => have := (hle.2.1 k rfl).2; simp; omega
        have h0 : h = 0 := by omega
        have l0 : l = 0 := by omega
        simp [this, h0, l0]
      · have h0 : h = 0 := by omega
        subst h0
        simp
        exact IRep.slz a
    | sl b off _ cap _ us hc h1 h2 =>
      have hr := run_sliceBounds (P := P) (w := w) hlo hhi hmx hc hb
      refine ⟨_, by simp only [Instr.sliceAt, Instr.slice, Sem.run_bind, run_under hU, Result.andThen_ok, hr, run_sizeOf he, Sem.run_pure]; rfl, ?_⟩
      by_cases hm : m.getD cap = l
      · have hh : h = l := by
          cases m with
          | none => simp at hm; omega
          | some k => simp at hm; have := (hle.2.1 k rfl).1; omega
        simp only [hm, if_true, hh, Nat.sub_self, Nat.zero_mul, List.take_zero]
        exact IRep.sl b off 0 0 [] us (Nat.le_refl _) (fun j hj => by simp at hj) (fun j hj => by simp at hj)
      · simp only [hm, if_false, Option.map_some, Addr.add_plain]
        have hcap : h - l ≤ m.getD cap - l := by
          cases m with
          | none => simp; omega
          | some k => simp; have := (hle.2.1 k rfl).1; omega
        refine IRep.sl b (off + l * ei.size) (h - l) _ _ (fun j => us (l * ei.size + j)) hcap (fun j hj => ?_) (fun j hj => ?_)
        · rw [Nat.add_assoc]; exact h1 _ (by simp at hj; omega)
        · simp only [List.getElem_take, List.getElem_drop]; exact h2 _ _
  · rename_i id off len cap sz heq
    simp only [Option.some.injEq] at heq
    subst heq
    obtain ⟨hL, rfl, hlc⟩ := hu
    split at hx <;> simp at hx
    rename_i l h m hb
    subst hx
    have hle := cutB_le hlc hb
    have hr := run_sliceBounds (P := P) (w := w) hlo hhi hmx (Nat.le_refl cap) hb
    refine ⟨_, by simp only [Instr.sliceAt, Instr.slice, Sem.run_bind, run_under hU, Result.andThen_ok, hr, run_sizeOf he, Sem.run_pure]; rfl, hL, ?_, ?_⟩
    · by_cases hm : m.getD cap = l
      · simp [hm]
      · simp [hm, Addr.add_plain]
    · cases m with
      | none => simp; omega
      | some k => simp; have := (hle.2.1 k rfl).1; omega
  · simp at hx

theorem run_unOp {op : UnOp} {u : Value} {p : PE} {L : Nat → Prop} (hu : RepE G bl L u p) {r : PC} (hr : unE op p = some r) :
    ∃ z, (Op.unary op u).run P w = .ok z w ∧ RepC G bl L z r := by
  unfold unE at hr
  split at hr
  · obtain rfl := IRep.int_inv hu
    split at hr <;> simp at hr
    subst hr
    exact ⟨_, by simp [Op.unary, Op.intArith], IRep.int _ _⟩
  · obtain rfl := IRep.bool_inv hu
    split at hr <;> simp at hr
    subst hr
    exact ⟨_, by simp [Op.unary], IRep.bool _⟩
  · simp at hr

end
end Go.PL

namespace Go.PL
open Go.RowKit

section
variable {P : Program} {G : GMem} {bl : Nat → Nat} {a : Act} {w : World} {s : St}

theorem RelA.peO (h : RelA G bl a w s) (x : Option Operand) : OptRep G bl (There s.st) (x.map a.eval) (s.peO x) := by
  cases x with
  | none => trivial
  | some y =>
    simp only [Option.map_some, St.peO]
    cases hy : s.pe y with
    | none => trivial
    | some p => exact h.pe hy

theorem ptrs_rep {L : Nat → Prop} : ∀ {us : List Value} {l : List PE} {ps : List (Nat × Nat)}, All2 (RepE G bl L) us l → ptrsOf l = some ps → us = ps.map (fun p => .pointer (some ⟨bl p.1, p.2, none⟩)) ∧ ∀ p ∈ ps, L p.1 := by
  intro us l ps h
  induction h generalizing ps with
  | nil => intro hp; simp only [ptrsOf, Option.some.injEq] at hp; subst hp; exact ⟨rfl, fun p hp => by simp at hp⟩
  | cons h1 _ ih =>
    intro hp
    unfold ptrsOf at hp
    split at hp
    · rename_i heq; cases heq
    · rename_i id off l heq
      cases heq
      rw [Option.map_eq_some_iff] at hp
      obtain ⟨qs, hq, rfl⟩ := hp
      obtain ⟨i1, i2⟩ := ih hq
      obtain ⟨g1, rfl⟩ := h1
      refine ⟨by rw [List.map_cons, i1], fun p hp => ?_⟩
      rcases List.mem_cons.1 hp with rfl | hp
      · exact g1
      · exact i2 p hp
    · cases hp
theorem RelA.peAll (h : RelA G bl a w s) : ∀ {l : List Operand} {ps : List PE}, s.peAll l = some ps → All2 (RepE G bl (There s.st)) (l.map a.eval) ps
  | [], ps, hp => by simp [St.peAll] at hp; subst hp; exact .nil
  | x :: l, ps, hp => by
    simp only [St.peAll] at hp
    split at hp <;> simp at hp
    rename_i p qs h1 h2
    subst hp
    exact .cons (h.pe h1) (h.peAll h2)

theorem RepE.cells {L : Nat → Prop} {u : Value} {p : PE} (h : RepE G bl L u p) : All2 (RepC G bl L) u.cells.toList p.cells := by
  cases p with
  | c p =>
    have : u.cells = #[u] := by
      have := RepC.oneCell h
      cases u <;> first | rfl | (simp [Value.oneCell'] at this)
    rw [this]
    exact .cons h .nil
  | a cs => obtain ⟨arr, rfl, h2⟩ := h; exact h2

theorem All2.splice {R : Value → PC → Prop} {l : List Value} {cs : List PC} (h : All2 R l cs) (off : Nat) {vs : List Value} {xs : List PC} (hv : All2 R vs xs) :
    All2 R (l.take off ++ vs ++ l.drop (off + vs.length)) (PL.splice cs off xs) := by
  unfold PL.splice
  rw [hv.length]
  exact ((h.take off).append hv).append (h.drop _)

theorem foldl_set (vs : List Value) : ∀ (arr : Array Value) (off k : Nat), off + k + vs.length ≤ arr.size →
    (List.foldl (fun cs (x : Value × Nat) => cs.setIfInBounds (off + x.2) x.1) arr (vs.zipIdx k)).toList = arr.toList.take (off + k) ++ vs ++ arr.toList.drop (off + k + vs.length) := by
  induction vs with
  | nil => intro arr off k h; simp
  | cons v vs ih =>
    intro arr off k h
    simp only [List.zipIdx_cons, List.foldl_cons]
    simp only [List.length_cons] at h
    rw [ih _ _ _ (by simp; omega)]
    simp only [Array.toList_setIfInBounds, List.length_cons]
    have hlt : off + k < arr.toList.length := by simp; omega
    rw [← Nat.add_assoc off k 1]
    rw [List.take_add_one, List.take_set_of_le (by omega), List.getElem?_set_self (by simpa using hlt)]
    rw [List.drop_set_of_lt (by omega), show off + k + 1 + vs.length = off + k + (vs.length + 1) from by omega]
    simp only [Option.toList_some, List.append_assoc, List.cons_append, List.nil_append]

theorem run_fill {L : Nat → Prop} {place : Nat → Option (Nat × Nat)} : ∀ {parts : List (Nat × Value)} {ps : List (Nat × Nat × PE)} {arr : Array Value} {cs out : List PC},
    All2 (fun (x : Nat × Value) (y : Nat × Nat × PE) => place x.1 = some (y.1, y.2.1) ∧ RepE G bl L x.2 y.2.2) parts ps → All2 (RepC G bl L) arr.toList cs → fillC cs ps = some out →
    ∃ arr', Instr.fill place arr parts = some arr' ∧ All2 (RepC G bl L) arr'.toList out := by
  intro parts
  induction parts with
  | nil =>
    intro ps arr cs out hp ha hf
    cases hp
    simp only [fillC, Option.some.injEq] at hf
    subst hf
    exact ⟨arr, rfl, ha⟩
  | cons x parts ih =>
    intro ps arr cs out hp ha hf
    cases hp with
    | cons hx hps =>
      rename_i y ps
      obtain ⟨i, v⟩ := x
      obtain ⟨off, size, p⟩ := y
      obtain ⟨h1, h2⟩ := hx
      simp only at h1 h2
      simp only [fillC] at hf
      split at hf
      · simp at hf
      · rename_i hn
        simp only [ne_eq, not_or, Decidable.not_not, Nat.not_lt] at hn
        obtain ⟨hl, hle⟩ := hn
        have hc := h2.cells
        have hcl := hc.length
        have hal := ha.length
        have hsz : v.cells.size = size := by rw [← hl, ← hcl]; simp
        have hbd : off + v.cells.size ≤ arr.size := by rw [hsz]; simp at hal; omega
        simp only [Instr.fill, h1]
        have hneg : ¬ ((decide (v.cells.size ≠ size) || decide (off + v.cells.size > arr.size)) = true) := by simp; omega
        rw [if_neg hneg]
        refine ih hps ?_ hf
        have := foldl_set v.cells.toList arr off 0 (by simpa using hbd)
        have e : (Array.foldl (fun cs (x : Value × Nat) => cs.setIfInBounds (off + x.2) x.1) arr v.cells.zipIdx).toList = arr.toList.take off ++ v.cells.toList ++ arr.toList.drop (off + v.cells.toList.length) := by
          rw [← Array.foldl_toList, Array.toList_zipIdx]; exact this
        rw [e]
        exact ha.splice off hc

theorem placesN_all2 (h : RelA G bl a w s) {size : Nat} : ∀ {parts : List (Nat × Operand)} {ps : List (Nat × Nat × PE)}, placesN size s parts = some ps →
    All2 (fun (x : Nat × Value) (y : Nat × Nat × PE) => (fun i => some (i * size, size)) x.1 = some (y.1, y.2.1) ∧ RepE G bl (There s.st) x.2 y.2.2) (parts.map fun x => (x.1, a.eval x.2)) ps
  | [], ps, hp => by simp [placesN] at hp; subst hp; exact .nil
  | (j, x) :: l, ps, hp => by
    simp only [placesN] at hp
    split at hp <;> simp at hp
    rename_i p qs h1 h2
    subst hp
    exact .cons ⟨rfl, h.pe h1⟩ (placesN_all2 h h2)

theorem places_all2 (h : RelA G bl a w s) {fs : List (Nat × Nat × Bool)} {pl : Nat → Option (Nat × Nat)} (hpl : ∀ j o n g, fs[j]? = some (o, n, g) → pl j = some (o, n)) :
    ∀ {parts : List (Nat × Operand)} {ps : List (Nat × Nat × PE)}, places fs s parts = some ps →
    All2 (fun (x : Nat × Value) (y : Nat × Nat × PE) => pl x.1 = some (y.1, y.2.1) ∧ RepE G bl (There s.st) x.2 y.2.2) (parts.map fun x => (x.1, a.eval x.2)) ps
  | [], ps, hp => by simp [places] at hp; subst hp; exact .nil
  | (j, x) :: l, ps, hp => by
    simp only [places] at hp
    split at hp <;> simp at hp
    rename_i o n g p qs h0 h1 h2
    subst hp
    exact .cons ⟨hpl _ _ _ _ h0, h.pe h1⟩ (places_all2 h hpl h2)

theorem run_zero {t : TypeId} {i : TI} (ht : tiOf P t = some i) {z : List PC} (hz : i.zero = some z) : ∃ v, (zeroValue t).run P w = .ok v w ∧ All2 (IRep G) v.cells.toList z := by
  obtain ⟨inf, u, h1, _, _, _, _, h3, _⟩ := tiOf_parts ht
  rw [h3, Option.bind_eq_some_iff] at hz
  obtain ⟨v, hv, hm⟩ := hz
  exact ⟨v, run_zeroValue h1 hv, mapM_pcOf hm⟩

theorem info_isSome {t : TypeId} (h : P.cellsOf t ≠ 0) : (P.info? t).isSome = true := by
  unfold Program.cellsOf at h
  cases hi : P.info? t with
  | none => simp [hi] at h
  | some i => rfl

theorem run_fieldSizes {flds : List Field} (h : ∀ f ∈ flds, (P.info? f.type).isSome = true) :
    (flds.mapM fun f => (do pure (f.offset, ← sizeOf f.type) : Sem (Nat × Nat))).run P w = .ok (flds.map fun f => (f.offset, P.cellsOf f.type)) w := by
  induction flds with
  | nil => rfl
  | cons f flds ih =>
    have hf := h f (by simp)
    obtain ⟨inf, hi⟩ := Option.isSome_iff_exists.1 hf
    have hs : (sizeOf f.type).run P w = .ok (P.cellsOf f.type) w := run_sizeOf' (by simp [hi, Program.cellsOf])
    simp only [List.mapM_cons, Sem.run_bind, hs, Result.andThen_ok, Sem.run_pure, ih (fun g hg => h g (by simp [hg])), List.map_cons]

theorem evA_val {mb : Bool} {o : Oper} {v : PV} (h : RelA G bl a w s) (hv : evA P mb s o.op = .val v) : Gives P G bl a w s o v := by
  obtain ⟨dst, op, ty, pos, after, guard⟩ := o
  unfold Gives
  cases op <;> simp only [evA] at hv <;> try (cases hv; done)
  case move x => have := A1.ofPV_val hv; exact ⟨_, by simp only [execOp, Sem.run_pure], h.pv this⟩
  case assign x => have := A1.ofPV_val hv; exact ⟨_, by simp only [execOp, Sem.run_pure], h.pv this⟩
  case pick c x y =>
    split at hv
    · rename_i t hc
      have e := IRep.bool_inv (h.pe hc)
      have := A1.ofPV_val hv
      refine ⟨if t = true then a.eval x else a.eval y, by simp only [execOp, Sem.run_bind, e, asBool, Sem.run_pure, Result.andThen_ok], ?_⟩
      cases t
      · simp at this ⊢; exact h.pv this
      · simp at this ⊢; exact h.pv this
    · simp at hv
  case alloc t => (repeat' (split at hv)) <;> simp at hv
  case box t x => (repeat' (split at hv)) <;> simp at hv
  case build t parts =>
    split at hv <;> try simp at hv
    rename_i i ht
    split at hv <;> try simp at hv
    rename_i z fs hz0 hk
    split at hv <;> try simp at hv
    rename_i ps hps
    obtain ⟨p, hp, rfl⟩ := A1.ofPE_val hv
    rw [Option.map_eq_some_iff] at hp
    obtain ⟨out, hf, rfl⟩ := hp
    obtain ⟨flds, hU, hfs, hall⟩ := under_struct ht hk
    obtain ⟨zv, hzr, hza⟩ := run_zero (G := G) (w := w) ht hz0
    have hsz := run_fieldSizes (w := w) (flds := flds.toList) (fun f hf => info_isSome (hall f (Array.mem_toList_iff.1 hf)).2)
    have hmap : (flds.mapM fun f => (do pure (f.offset, ← sizeOf f.type) : Sem (Nat × Nat))).run P w = .ok (flds.toList.map fun f => (f.offset, P.cellsOf f.type)).toArray w := by
      rw [Array.mapM_eq_mapM_toList]
      rw [Sem.run_map, hsz]
      rfl
    have hpl : ∀ (j o n : Nat) (g : Bool), fs[j]? = some (o, n, g) → ((flds.toList.map fun f => (f.offset, P.cellsOf f.type)).toArray)[j]? = some (o, n) := by
      intro j o n g hj
      rw [hfs, List.getElem?_map, Option.map_eq_some_iff] at hj
      obtain ⟨fd, hfd, e⟩ := hj
      simp only [Prod.mk.injEq] at e
      simp only [List.getElem?_toArray, List.getElem?_map, hfd, Option.map_some, e.1, e.2.1]
    obtain ⟨arr', h1, h2⟩ := run_fill (places_all2 h hpl hps) (hza.mono fun _ _ => RepC.of_irep) hf
    refine ⟨.agg arr', ?_, arr', rfl, h2⟩
    have e2 : (parts.map fun (x : Nat × Operand) => (x.1, a.eval x.2)).toList = parts.toList.map fun x => (x.1, a.eval x.2) := by simp
    simp only [execOp, Instr.build, Sem.run_bind, hzr, Result.andThen_ok, run_under hU, hmap, e2, h1, Sem.run_pure]
  case buildSlice t n parts => (repeat' (split at hv)) <;> simp at hv
  case load t x =>
    split at hv <;> try simp at hv
    rename_i i ht
    obtain ⟨p, hp, rfl⟩ := A1.ofPE_val hv
    cases hx : s.pe x with
    | none => rw [hx] at hp; simp [loadA] at hp
    | some q =>
      rw [hx] at hp
      obtain ⟨u, h1, h2⟩ := h.st.loadA ht (h.pe hx) hp
      exact ⟨u, by simp only [execOp, Sem.run_bind, h1, Result.andThen_ok, Sem.run_pure], h2⟩
  case store t x y => (repeat' (split at hv)) <;> simp at hv
  case nilCheck x =>
    split at hv <;> simp at hv
    · rename_i id off hx
      subst hv
      obtain ⟨hL, e⟩ := h.pe hx
      exact ⟨_, by simp only [execOp, e, Sem.run_pure], hL, rfl⟩
    · rename_i cs hx
      subst hv
      have r := h.pe hx
      refine ⟨a.eval x, ?_, r⟩
      obtain ⟨b, off, us, e, h1, h2⟩ := IRep.iptr_inv r
      simp only [execOp, e, Sem.run_pure]
  case binOp op t x y ty2 =>
    split at hv <;> try simp at hv
    rename_i p q hx hy
    obtain ⟨r, hr, rfl⟩ := A1.ofPC_val hv
    obtain ⟨z, h1, h2⟩ := run_binOp (x := x) (y := y) (w := w) (h.pe hx) (h.pe hy) hr
    refine ⟨z, ?_, h2⟩
    simp only [Sem.run_bind] at h1
    simp only [execOp, Sem.run_bind, h1, Result.andThen_ok, Sem.run_pure]
  case unOp op t x =>
    split at hv <;> try simp at hv
    rename_i p hx
    obtain ⟨r, hr, rfl⟩ := A1.ofPC_val hv
    obtain ⟨z, h1, h2⟩ := run_unOp (P := P) (w := w) (h.pe hx) hr
    exact ⟨z, by simp only [execOp, Sem.run_bind, h1, Result.andThen_ok, Sem.run_pure], h2⟩
  case convert src dst x =>
    split at hv <;> try simp at hv
    rename_i k n si di hx hs hd
    split at hv <;> simp at hv
    rename_i k' hk
    subst hv
    have e := IRep.int_inv (h.pe hx)
    obtain ⟨us, hus⟩ := under_some hs
    exact ⟨_, by simp only [execOp, convert, Sem.run_bind, run_under hus, run_under (under_int hd hk), e, Result.andThen_ok, Conv.intToInt, Sem.run_pure], IRep.int _ _⟩
  case makeSlice t l c => (repeat' (split at hv)) <;> simp at hv
  case slice t x lo hi mx =>
    split at hv <;> try simp at hv
    rename_i i ht
    split at hv <;> try simp at hv
    rename_i e hk
    split at hv <;> try simp at hv
    rename_i ei he
    obtain ⟨r, hr, rfl⟩ := A1.ofPC_val hv
    cases hx : s.pe x with
    | none => rw [hx] at hr; simp [cutA] at hr
    | some p =>
      rw [hx] at hr
      obtain ⟨z, h1, h2⟩ := run_cut (w := w) ht hk he (h.pe hx) (h.peO lo) (h.peO hi) (h.peO mx) hr
      exact ⟨z, by simp only [execOp, Sem.run_bind, h1, Result.andThen_ok, Sem.run_pure], h2⟩
  case fieldAddr t x f =>
    split at hv <;> try simp at hv
    rename_i i ht
    obtain ⟨r, hr, rfl⟩ := A1.ofPC_val hv
    cases hx : s.pe x with
    | none => rw [hx] at hr; simp [fieldA] at hr
    | some p =>
      rw [hx] at hr
      obtain ⟨z, h1, h2⟩ := run_fieldAt (w := w) ht (h.pe hx) hr
      exact ⟨z, by simp only [execOp, Sem.run_bind, h1, Result.andThen_ok, Sem.run_pure], h2⟩
  case field t x f =>
    split at hv <;> try simp at hv
    rename_i i ht
    obtain ⟨r, hr, rfl⟩ := A1.ofPE_val hv
    unfold fieldV at hr
    split at hr <;> try simp at hr
    rename_i cs hx
    split at hr <;> try simp at hr
    rename_i fs hk
    split at hr <;> try simp at hr
    rename_i o n g hf
    obtain ⟨flds, hU, hfs, hall⟩ := under_struct ht hk
    obtain ⟨arr, e, ha⟩ := h.pe hx
    rw [hfs, List.getElem?_map, Option.map_eq_some_iff] at hf
    obtain ⟨fd, hfd, heq⟩ := hf
    simp only [Prod.mk.injEq] at heq
    obtain ⟨e1, e2, e3⟩ := heq
    have hfd' : flds[f]? = some fd := by rw [← Array.getElem?_toList]; exact hfd
    have hin := hall fd (Array.mem_of_getElem? hfd')
    obtain ⟨z, h1, h2⟩ := run_part (P := P) (w := w) (t := fd.type) ha e3.symm e2 (e2 ▸ hin.2) hin.1 hr
    refine ⟨z, ?_, ?_⟩
    · simp only [execOp, Instr.field, Sem.run_bind, run_under hU, Result.andThen_ok, hfd', e, asAgg, Sem.run_pure, e1, h1]
    · cases r <;> exact h2
  case indexAddr t x j =>
    split at hv <;> try simp at hv
    rename_i i ht
    split at hv <;> try simp at hv
    rename_i e hk
    split at hv <;> try simp at hv
    rename_i ei he
    obtain ⟨r, hr, rfl⟩ := A1.ofPC_val hv
    unfold indexA at hr
    split at hr <;> try simp at hr
    · rename_i n cs k q hx hj
      split at hr <;> simp at hr
      rename_i e' hk'
      obtain ⟨⟨h0, hn⟩, rfl⟩ := hr
      rw [hk'] at hk; simp [elemOfK] at hk; subst hk
      have ej := IRep.int_inv (h.pe hj)
      rcases IRep.sl_inv (h.pe hx) with ⟨_, rfl, _⟩ | ⟨b, off, cap, us, ex, hc, h1, h2⟩
      · simp at hn; omega
      · refine ⟨.pointer (some ⟨b, off + q.toNat * ei.size, none⟩), ?_, ?_⟩
        · simp only [execOp, Instr.indexAt, Sem.run_bind, ej, asIntOf, Sem.run_pure, run_under (under_slice ht hk'), ex, Result.andThen_ok, Sem.run_ite, run_sizeOf he, Addr.add_plain]
          rw [if_pos ⟨h0, hn⟩, Result.andThen_ok]
        · refine IRep.iptr b _ _ (fun m => us (q.toNat * ei.size + m)) (fun m hm => ?_) (fun m hm => ?_)
          · rw [Nat.add_assoc]; exact h1 _ (by simp at hm; omega)
          · simp only [List.getElem_take, List.getElem_drop]; exact h2 _ _
    · rename_i id off len cap sz k q hx hj
      split at hr <;> simp at hr
      rename_i e' hk'
      obtain ⟨⟨h0, hn⟩, rfl⟩ := hr
      rw [hk'] at hk; simp [elemOfK] at hk; subst hk
      have ej := IRep.int_inv (h.pe hj)
      obtain ⟨hL, ex, hlc⟩ := h.pe hx
      refine ⟨.pointer (some ⟨bl id, off + q.toNat * ei.size, none⟩), ?_, hL, rfl⟩
      simp only [execOp, Instr.indexAt, Sem.run_bind, ej, asIntOf, Sem.run_pure, run_under (under_slice ht hk'), ex, Result.andThen_ok, Sem.run_ite, run_sizeOf he, Addr.add_plain]
      rw [if_pos ⟨h0, hn⟩, Result.andThen_ok]
    · rename_i id off k q hx hj
      split at hr <;> simp at hr
      rename_i len e' hk'
      obtain ⟨⟨h0, hn⟩, rfl⟩ := hr
      rw [hk'] at hk; simp [elemOfK] at hk; subst hk
      have ej := IRep.int_inv (h.pe hj)
      obtain ⟨hL, ex⟩ := h.pe hx
      refine ⟨.pointer (some ⟨bl id, off + q.toNat * ei.size, none⟩), ?_, hL, rfl⟩
      simp only [execOp, Instr.indexAt, Instr.sureAddr, Sem.run_bind, ej, asIntOf, Sem.run_pure, run_under (under_array ht hk'), ex, Result.andThen_ok, Sem.run_ite, run_sizeOf he, Addr.add_plain]
      rw [if_pos ⟨h0, hn⟩, Result.andThen_ok]
    · rename_i cs k q hx hj
      split at hr <;> simp at hr
      rename_i len e' hk'
      obtain ⟨⟨h0, hn⟩, rfl⟩ := hr
      rw [hk'] at hk; simp [elemOfK] at hk; subst hk
      have ej := IRep.int_inv (h.pe hj)
      obtain ⟨b, off, us, ex, h1, h2⟩ := IRep.iptr_inv (h.pe hx)
      · refine ⟨.pointer (some ⟨b, off + q.toNat * ei.size, none⟩), ?_, ?_⟩
        · simp only [execOp, Instr.indexAt, Instr.sureAddr, Sem.run_bind, ej, asIntOf, Sem.run_pure, run_under (under_array ht hk'), ex, Result.andThen_ok, Sem.run_ite, run_sizeOf he, Addr.add_plain]
          rw [if_pos ⟨h0, hn⟩, Result.andThen_ok]
        · refine IRep.iptr b _ _ (fun m => us (q.toNat * ei.size + m)) (fun m hm => ?_) (fun m hm => ?_)
          · rw [Nat.add_assoc]; exact h1 _ (by simp at hm; omega)
          · simp only [List.getElem_drop]; exact h2 _ _
  case makeFunc f b cs =>
    unfold evF at hv
    split at hv <;> try (cases hv; done)
    rename_i g ps hb hl
    simp only [A1.val.injEq] at hv
    subst hv
    rw [Option.bind_eq_some_iff] at hl
    obtain ⟨l, hl1, hl2⟩ := hl
    have hb0 : b = #[] := by cases b; simp at hb; rw [hb]
    subst hb0
    have hall := h.peAll hl1
    refine ⟨.func (.func g) #[] (cs.map a.eval), by simp [execOp, Instr.makeFunc], ?_⟩
    refine ⟨cs.map a.eval, rfl, ?_, fun p hp => (ptrs_rep hall hl2).2 p hp⟩
    rw [Array.toList_map]
    exact (ptrs_rep hall hl2).1
  case extract x j =>
    split at hv <;> try simp at hv
    rename_i xs hx
    obtain ⟨p, hp, rfl⟩ := A1.ofPE_val hv
    obtain ⟨arr, e, ha⟩ := h.tu hx
    obtain ⟨u, hu1, hu2⟩ := ha.get j p hp
    have : arr[j]? = some u := by rw [← Array.getElem?_toList]; exact hu1
    exact ⟨u, by simp only [execOp, Instr.extract, Sem.run_bind, e, this, Sem.run_pure, Result.andThen_ok], hu2⟩
  case call c =>
    obtain ⟨callee, args, tys⟩ := c
    split at hv
    · repeat' (split at hv)
      all_goals try (cases hv; done)
      unfold appA at hv
      repeat' (split at hv)
      all_goals (cases hv)
    · rename_i b hb hcal
      simp only at hcal
      subst hcal
      unfold evB at hv
      split at hv <;> try simp at hv
      · rename_i x hargs
        have ha : args = #[x] := by cases args; simp at hargs; rw [hargs]
        subst ha
        split at hv <;> try simp at hv
        rename_i i hti
        split at hv <;> try simp at hv
        rename_i e hk
        obtain ⟨r, hr, rfl⟩ := A1.ofPC_val hv
        rw [Option.bind_eq_some_iff] at hti
        obtain ⟨t, htt, ht⟩ := hti
        have main : ∀ {ad : Option Addr} {n cap : Nat}, a.eval x = .slice ad n cap → (execOp a.eval { dst := dst, op := .call { callee := .builtin .len, args := #[x], argTypes := tys }, type := ty, pos := pos, after := after, guard := guard }).run P w = .ok (.value (.int .i64 n)) w := by
          intro ad n cap e
          simp only [execOp, resolve, Sem.run_bind, Sem.run_pure, Result.andThen_ok, invoke, builtin, Builtin.len_, htt, List.map_toArray, List.map_cons, List.map_nil, e, goInt]
          simp [run_under (under_slice ht hk)]
        unfold lenC at hr
        split at hr <;> simp at hr
        · rename_i hx
          subst hr
          exact ⟨.int .i64 0, main (IRep.nils_inv (h.pe hx)), IRep.int _ _⟩
        · rename_i n cs hx
          subst hr
          refine ⟨.int .i64 n, ?_, IRep.int _ _⟩
          rcases IRep.sl_inv (h.pe hx) with ⟨hh | ⟨_, hh⟩, rfl, _⟩ | ⟨b, off, cap, us, hh, _⟩
          · exact main hh
          · exact main hh
          · exact main hh
        · rename_i id off n cap sz hx
          subst hr
          obtain ⟨hL, e, _⟩ := h.pe hx
          exact ⟨.int .i64 n, main e, IRep.int _ _⟩
      · rename_i x y hargs
        have ha : args = #[x, y] := by cases args; simp at hargs; rw [hargs]
        subst ha
        split at hv <;> try simp at hv
        rename_i k m k' n hx hy
        subst hv
        have e1 := IRep.int_inv (h.pe hx)
        have e2 := IRep.int_inv (h.pe hy)
        refine ⟨_, ?_, IRep.int _ _⟩
        simp [execOp, resolve, invoke, builtin, Builtin.min_, Builtin.min2, e1, e2]
      · rename_i x y hargs
        have ha : args = #[x, y] := by cases args; simp at hargs; rw [hargs]
        subst ha
        split at hv <;> try simp at hv
        rename_i k m k' n hx hy
        subst hv
        have e1 := IRep.int_inv (h.pe hx)
        have e2 := IRep.int_inv (h.pe hy)
        refine ⟨_, ?_, IRep.int _ _⟩
        simp [execOp, resolve, invoke, builtin, Builtin.max_, Builtin.max2, e1, e2]
    · (repeat' (split at hv)) <;> simp at hv
    · simp at hv

end
end Go.PL

namespace Go.PL
open Go.RowKit

def World.withNew (w : World) (arr : Array Value) (e : TypeId) : World := { w with heap := w.heap.push (.cells arr e) }
def World.withRow (w : World) (b : Nat) (arr : Array Value) (e : TypeId) : World := { w with heap := w.heap.setIfInBounds b (.cells arr e (0, 0)) }

section
variable {P : Program} {G : GMem} {bl : Nat → Nat} {a : Act} {w : World} {s : St}

theorem repC_get (z : List PC) (hk : 0 < z.length) : ∀ (n i : Nat), i < n * z.length → (repC n z)[i]? = z[i % z.length]?
  | 0, i, h => by simp at h
  | n + 1, i, h => by
    unfold repC
    rw [List.replicate_succ, List.flatten_cons]
    by_cases hi : i < z.length
    · rw [List.getElem?_append_left hi, Nat.mod_eq_of_lt hi]
    · have hi' : z.length ≤ i := by omega
      rw [List.getElem?_append_right hi']
      have := repC_get z hk n (i - z.length) (by rw [Nat.succ_mul] at h; omega)
      unfold repC at this
      rw [this]
      congr 1
      rw [Nat.mod_eq_sub_mod hi']

theorem repC_length (n : Nat) (z : List PC) : (repC n z).length = n * z.length := by
  simp [repC]

theorem zeros_all2 {R : Value → PC → Prop} {zs : Array Value} {z : List PC} (h : All2 R zs.toList z) (n : Nat) :
    All2 R ((Array.range (n * z.length)).map (zs[· % zs.size]!)).toList (repC n z) := by
  have hl : zs.size = z.length := by have := h.length; simpa using this
  by_cases hk : 0 < z.length
  · refine All2.of_get (by simp [repC_length]) fun i h1 h2 => ?_
    simp only [Array.toList_map, Array.toList_range, List.length_map, List.length_range] at h1
    have hm : i % z.length < z.length := Nat.mod_lt _ hk
    obtain ⟨v, hv, r⟩ := h.get (i % z.length) (z[i % z.length]'hm) (List.getElem?_eq_getElem hm)
    have e1 : (repC n z)[i]'h2 = z[i % z.length]'hm := by
      have := repC_get z hk n i h1
      rw [List.getElem?_eq_getElem h2, List.getElem?_eq_getElem hm, Option.some.injEq] at this
      exact this
    have e2 : zs[i % zs.size]! = v := by
      rw [hl]
      have : zs[i % z.length]? = some v := by rw [← Array.getElem?_toList]; exact hv
      simp [getElem!_def, this]
    simp only [Array.toList_map, Array.toList_range, List.getElem_map, List.getElem_range, e1, e2]
    exact r
  · have : z.length = 0 := by omega
    have hz : repC n z = [] := by
      apply List.eq_nil_of_length_eq_zero; rw [repC_length, this, Nat.mul_zero]
    rw [hz, this]
    simp
    exact .nil

theorem run_buildSlice {t e : TypeId} {i ei : TI} (h : RelA G bl a w s) (ht : tiOf P t = some i) (hk : i.k = .slice e) (he : tiOf P e = some ei) {z : List PC} (hz : ei.zero = some z) (hzl : z.length = ei.size)
    {n : Nat} {parts : Array (Nat × Operand)} {ps : List (Nat × Nat × PE)} (hps : placesN ei.size s parts.toList = some ps) {cs : List PC} (hf : fillC (repC n z) ps = some cs) (hn : n * ei.size ≤ 2 ^ 24) :
    ∃ arr, (Instr.buildSlice t n (parts.map fun x => (x.1, a.eval x.2))).run P w = .ok (.slice (some ⟨w.heap.size, 0, none⟩) n n) (World.withNew w arr e) ∧ All2 (RepC G bl (There s.st)) arr.toList cs := by
  obtain ⟨zv, hzr, hza⟩ := run_zero (G := G) (w := w) he hz
  have e2 : (parts.map fun (x : Nat × Operand) => (x.1, a.eval x.2)).toList = parts.toList.map fun x => (x.1, a.eval x.2) := by simp
  have hng : ¬ (n * ei.size > 2 ^ 24) := by omega
  by_cases h0 : n * ei.size = 0
  · have hall : All2 (RepC G bl (There s.st)) ((Array.range (n * ei.size)).map ((#[] : Array Value)[· % (#[] : Array Value).size]!)).toList (repC n z) := by
      have : repC n z = [] := by apply List.eq_nil_of_length_eq_zero; rw [repC_length, hzl, h0]
      rw [this, h0]
      simp
      exact .nil
    obtain ⟨arr', h1, h2⟩ := run_fill (place := fun i => some (i * ei.size, ei.size)) (placesN_all2 h hps) hall hf
    refine ⟨arr', ?_, h2⟩
    simp only [Instr.buildSlice, Sem.run_bind, run_under (under_slice ht hk), Result.andThen_ok, run_sizeOf he, if_neg hng, if_pos h0, Sem.run_pure, e2, h1, newRow, run_newObj]
    rfl
  · have hall : All2 (RepC G bl (There s.st)) ((Array.range (n * ei.size)).map (zv.cells[· % zv.cells.size]!)).toList (repC n z) := by
      rw [← hzl]
      exact zeros_all2 (hza.mono fun _ _ => RepC.of_irep) n
    obtain ⟨arr', h1, h2⟩ := run_fill (place := fun i => some (i * ei.size, ei.size)) (placesN_all2 h hps) hall hf
    refine ⟨arr', ?_, h2⟩
    simp only [Instr.buildSlice, Sem.run_bind, run_under (under_slice ht hk), Result.andThen_ok, run_sizeOf he, if_neg hng, if_neg h0, hzr, Sem.run_pure, e2, h1, newRow, run_newObj]
    rfl

theorem wrap64_small {m : Int} (h0 : 0 ≤ m) (h1 : m < 2 ^ 62) : IntKind.i64.wrap m = m := by
  unfold IntKind.wrap
  have e1 : m % (2 ^ IntKind.i64.bits : Int) = m := Int.emod_eq_of_lt h0 (by simp only [IntKind.bits]; omega)
  simp only [e1]
  rw [if_neg]
  simp [IntKind.bits, IntKind.signed]
  omega

theorem run_makeSlice {t e : TypeId} {i ei : TI} (ht : tiOf P t = some i) (hk : i.k = .slice e) (he : tiOf P e = some ei) {z : List PC} (hz : ei.zero = some z) (hzl : z.length = ei.size)
    {n m : Int} (h0 : 0 ≤ n) (h1 : n ≤ m) (h2 : m * ei.bytes ≤ 2 ^ 47) (h3 : m < 2 ^ 62) :
    ∃ arr, (Instr.makeSlice t (.int .i64 n) (.int .i64 m)).run P w = .ok (.slice (some ⟨w.heap.size, 0, none⟩) n.toNat m.toNat) (World.withNew w arr e) ∧ All2 (IRep G) arr.toList (repC m.toNat z) := by
  obtain ⟨zv, hzr, hza⟩ := run_zero (G := G) (w := w) he hz
  obtain ⟨inf, u, hi, _, hs, hb, _⟩ := tiOf_parts he
  have wn : IntKind.i64.wrap n = n := wrap64_small h0 (by omega)
  have wm : IntKind.i64.wrap m = m := wrap64_small (by omega) h3
  have hbnd : (inf.bytes : Int) * m ≤ 2 ^ 47 := by rw [hb, Int.mul_comm]; exact h2
  have hc : ¬ ((((decide (IntKind.i64.wrap m < 0) || decide ((inf.bytes : Int) * IntKind.i64.wrap m > 2 ^ 48)) || decide (IntKind.i64.wrap n < 0)) || decide (IntKind.i64.wrap n > IntKind.i64.wrap m)) = true) := by
    rw [wn, wm]; simp; omega
  by_cases hh : m.toNat * ei.size = 0
  · refine ⟨(Array.range (m.toNat * ei.size)).map ((#[] : Array Value)[· % (#[] : Array Value).size]!), ?_, ?_⟩
    · simp only [Instr.makeSlice, Sem.run_bind, run_under (under_slice ht hk), Result.andThen_ok, asInt, asIntOf, Sem.run_pure, run_typeInfo hi, if_neg hc]
      simp only [Sem.run_bind, run_askRoom, Result.andThen_ok, run_sizeOf he, wn, wm, if_pos hh, newRow, run_newObj, Sem.run_pure]
      rfl
    · have : repC m.toNat z = [] := by apply List.eq_nil_of_length_eq_zero; rw [repC_length, hzl, hh]
      rw [this, hh]
      simp
      exact .nil
  · refine ⟨(Array.range (m.toNat * ei.size)).map (zv.cells[· % zv.cells.size]!), ?_, ?_⟩
    · simp only [Instr.makeSlice, Sem.run_bind, run_under (under_slice ht hk), Result.andThen_ok, asInt, asIntOf, Sem.run_pure, run_typeInfo hi, if_neg hc]
      simp only [Sem.run_bind, run_askRoom, Result.andThen_ok, run_sizeOf he, wn, wm, if_neg hh, hzr, newRow, run_newObj, Sem.run_pure]
      rfl
    · rw [← hzl]
      exact zeros_all2 hza m.toNat

theorem evA_new {mb : Bool} {o : Oper} {v : Nat → PV} {cs : List PC} (h : RelA G bl a w s) (hv : evA P mb s o.op = .new v cs) :
    ∃ u arr e, (execOp a.eval o).run P w = .ok (.value u) (World.withNew w arr e) ∧ All2 (RepC G bl (There s.st)) arr.toList cs ∧
      ∀ (G' : GMem) (bl' : Nat → Nat) (L' : Nat → Prop) (id : Nat), bl' id = w.heap.size → L' id → RepV G' bl' L' u (v id) := by
  obtain ⟨dst, op, ty, pos, after, guard⟩ := o
  cases op <;> simp only [evA] at hv <;> try (cases hv; done)
  case move x => cases hx : s.pv x <;> rw [hx] at hv <;> simp [A1.ofPV] at hv
  case assign x => cases hx : s.pv x <;> rw [hx] at hv <;> simp [A1.ofPV] at hv
  case pick c x y =>
    split at hv <;> try (cases hv; done)
    rename_i t _
    cases hx : (if t = true then s.pv x else s.pv y) <;> rw [hx] at hv <;> simp [A1.ofPV] at hv
  case alloc t =>
    split at hv <;> try (cases hv; done)
    rename_i i ht
    split at hv <;> try (cases hv; done)
    rename_i z hz
    simp only [A1.new.injEq] at hv
    obtain ⟨rfl, rfl⟩ := hv
    obtain ⟨zv, hzr, hza⟩ := run_zero (G := G) (w := w) ht hz
    refine ⟨.pointer (some ⟨w.heap.size, 0, none⟩), zv.cells, t, ?_, hza.mono fun _ _ => RepC.of_irep, fun G' bl' L' id hb hL => ?_⟩
    · simp only [execOp, Instr.alloc, Sem.run_bind, hzr, Result.andThen_ok, newVar, newRow, run_newObj, Sem.run_pure]; rfl
    · exact ⟨hL, by rw [hb]⟩
  case box t x =>
    split at hv <;> try (cases hv; done)
    rename_i p hx
    simp only [A1.new.injEq] at hv
    obtain ⟨rfl, rfl⟩ := hv
    refine ⟨.pointer (some ⟨w.heap.size, 0, none⟩), (a.eval x).cells, t, ?_, (h.pe hx).cells, fun G' bl' L' id hb hL => ?_⟩
    · simp only [execOp, Instr.box, Sem.run_bind, Result.andThen_ok, newVar, newRow, run_newObj, Sem.run_pure]; rfl
    · exact ⟨hL, by rw [hb]⟩
  case build t parts =>
    repeat' (split at hv)
    all_goals try (cases hv; done)
    unfold A1.ofPE at hv; split at hv <;> cases hv
  case buildSlice t n parts =>
    split at hv <;> try (cases hv; done)
    rename_i i ht
    split at hv <;> try (cases hv; done)
    rename_i e hk
    split at hv <;> try (cases hv; done)
    rename_i ei he
    split at hv <;> try (cases hv; done)
    rename_i z hz
    split at hv <;> try (cases hv; done)
    rename_i ps hps
    split at hv <;> try (cases hv; done)
    rename_i cs' hf
    split at hv <;> try (cases hv; done)
    rename_i hsz
    split at hv
    case isFalse => split at hv <;> cases hv
    case isTrue hmb =>
    simp only [A1.new.injEq] at hv
    obtain ⟨rfl, rfl⟩ := hv
    simp only [not_or, Nat.not_lt, Decidable.not_not] at hsz
    obtain ⟨arr, h1, h2⟩ := run_buildSlice h ht hk he hz hsz.2 hps hf hsz.1
    refine ⟨_, arr, e, ?_, h2, fun G' bl' L' id hb hL => ⟨hL, by rw [hb], Nat.le_refl _⟩⟩
    simp only [execOp, Sem.run_bind, h1, Result.andThen_ok, Sem.run_pure]
  case load t x =>
    split at hv <;> try (cases hv; done)
    unfold A1.ofPE at hv; split at hv <;> cases hv
  case store t x y => (repeat' (split at hv)) <;> cases hv
  case nilCheck x => (repeat' (split at hv)) <;> cases hv
  case binOp => split at hv <;> try (cases hv; done)
                unfold A1.ofPC at hv; split at hv <;> cases hv
  case unOp => split at hv <;> try (cases hv; done)
               unfold A1.ofPC at hv; split at hv <;> cases hv
  case convert => (repeat' (split at hv)) <;> cases hv
  case makeSlice t l c =>
    split at hv <;> try (cases hv; done)
    rename_i i ht
    split at hv <;> try (cases hv; done)
    rename_i e hk
    split at hv <;> try (cases hv; done)
    rename_i ei n m he hl hc
    split at hv <;> try (cases hv; done)
    rename_i z hz
    split at hv <;> try (cases hv; done)
    rename_i hcond
    obtain ⟨h0, h1, h2, h3, h4⟩ := hcond
    simp only [A1.new.injEq] at hv
    obtain ⟨rfl, rfl⟩ := hv
    obtain ⟨arr, h5, h6⟩ := run_makeSlice (G := G) (w := w) ht hk he hz h4 h0 h1 h2 h3
    have e1 := IRep.int_inv (h.pe hl)
    have e2 := IRep.int_inv (h.pe hc)
    refine ⟨_, arr, e, ?_, h6.mono fun _ _ => RepC.of_irep, fun G' bl' L' id hb hL => ⟨hL, by rw [hb], by omega⟩⟩
    simp only [execOp, e1, e2, Sem.run_bind, h5, Result.andThen_ok, Sem.run_pure]
  case slice =>
    repeat' (split at hv)
    all_goals try (cases hv; done)
    unfold A1.ofPC at hv; split at hv <;> cases hv
  case fieldAddr =>
    split at hv <;> try (cases hv; done)
    unfold A1.ofPC at hv; split at hv <;> cases hv
  case field =>
    split at hv <;> try (cases hv; done)
    unfold A1.ofPE at hv; split at hv <;> cases hv
  case indexAddr =>
    repeat' (split at hv)
    all_goals try (cases hv; done)
    unfold A1.ofPC at hv; split at hv <;> cases hv
  case makeFunc =>
    unfold evF at hv; split at hv <;> cases hv
  case extract =>
    split at hv <;> try (cases hv; done)
    unfold A1.ofPE at hv; split at hv <;> cases hv
  case call c =>
    split at hv
    · repeat' (split at hv)
      all_goals try (cases hv; done)
      unfold appA at hv
      repeat' (split at hv)
      all_goals (cases hv)
    · unfold evB at hv
      repeat' (split at hv)
      all_goals try (cases hv; done)
      unfold A1.ofPC at hv; split at hv <;> cases hv
    · repeat' (split at hv)
      all_goals (cases hv)
    · cases hv

end
end Go.PL

namespace Go.PL
open Go.RowKit

section
variable {P : Program} {G : GMem} {bl : Nat → Nat} {a : Act} {w : World} {s : St}

theorem All2.irep_of_im {L : Nat → Prop} {l : List Value} {cs : List PC} (h : All2 (RepC G bl L) l cs) (hi : cs.all PC.im = true) : All2 (IRep G) l cs := by
  induction h with
  | nil => exact .nil
  | cons h _ ih =>
    simp only [List.all_cons, Bool.and_eq_true] at hi
    exact .cons (RepC.irep h hi.1) (ih hi.2)

def Made (G : GMem) (w : World) (n : Nat) (cs : List PC) (u : Value) (w' : World) : Prop :=
  (w' = w ∧ IRep G u (.sl n cs)) ∨
  ∃ (arr : Array Value) (e : TypeId) (k cap : Nat) (vs rest : List Value), w' = { World.withNew w arr e with drawn := w.drawn + k } ∧ u = .slice (some ⟨w.heap.size, 0, none⟩) n cap ∧ n ≤ cap ∧ arr.toList = vs ++ rest ∧ All2 (IRep G) vs cs

theorem growBy_le (newLen : Nat) : ∀ (r c : Nat), c ≤ 2 * newLen + 1000 → Builtin.growBy newLen r c ≤ 2 * newLen + 1000
  | 0, c, h => by simpa [Builtin.growBy] using h
  | r + 1, c, h => by
    unfold Builtin.growBy
    split
    · exact h
    · exact growBy_le newLen r _ (by omega)

theorem nextslicecap_le {need cap : Nat} (h : cap < need) : Builtin.nextslicecap need cap ≤ 2 * need + 1000 := by
  unfold Builtin.nextslicecap
  split
  · omega
  · split
    · omega
    · exact growBy_le _ _ _ (by omega)

theorem RelS.firstCells (h : RelS G bl w s.st) {size : Nat} {v : Value} {p : PE} (hv : RepE G bl (There s.st) v p) {n : Nat} {cs : List PC} (hc : slCells s.st size (some p) = some (n, cs)) :
    ∃ vs : List Value, All2 (RepC G bl (There s.st)) vs cs ∧ (∃ ad cap, v = .slice ad n cap) ∧ ∀ w' : World, w'.heap = w.heap → (Builtin.firstCells size n v).run P w' = .ok vs.toArray w' := by
  have cellEq : ∀ (w' : World), w'.heap = w.heap → ∀ ad, w'.cell? ad = w.cell? ad := fun w' hw ad => by simp only [World.cell?, hw]
  unfold slCells at hc
  split at hc
  · rename_i heq
    simp only [Option.some.injEq] at heq
    subst heq
    simp only [Option.some.injEq, Prod.mk.injEq] at hc
    obtain ⟨rfl, rfl⟩ := hc
    obtain rfl := IRep.nils_inv hv
    exact ⟨[], .nil, ⟨_, _, rfl⟩, fun w' _ => by simp [Builtin.firstCells]⟩
  · rename_i m ds heq
    simp only [Option.some.injEq] at heq
    subst heq
    split at hc <;> simp at hc
    rename_i hlen
    obtain ⟨rfl, rfl⟩ := hc
    rcases IRep.sl_inv hv with ⟨rfl | ⟨a, rfl⟩, rfl, rfl⟩ | ⟨b, off, cap, us, rfl, _, h1, h2⟩
    · exact ⟨[], .nil, ⟨_, _, rfl⟩, fun w' _ => by simp [Builtin.firstCells]⟩
    · exact ⟨[], .nil, ⟨_, _, rfl⟩, fun w' _ => by simp [Builtin.firstCells, loadCells, loadCellsFrom]⟩
    · refine ⟨(List.range ds.length).map us, ?_, ⟨_, _, rfl⟩, fun w' hw => ?_⟩
      · refine All2.of_get (by simp) fun i h3 h4 => ?_
        simp only [List.getElem_map, List.getElem_range]
        exact RepC.of_irep (h2 i h4)
      · simp only [Builtin.firstCells]
        rw [← hlen]
        exact run_loadCells w' _ _ us fun j hj => by rw [Addr.add_plain, cellEq w' hw]; exact h.agree _ _ _ (h1 j hj)
  · rename_i id off len cap sz heq
    simp only [Option.some.injEq] at heq
    subst heq
    split at hc <;> try (cases hc; done)
    rename_i bx hb
    split at hc <;> try (cases hc; done)
    rename_i ds hds
    split at hc <;> simp at hc
    rename_i hcond
    obtain ⟨rfl, hle⟩ := hcond
    obtain ⟨rfl, rfl⟩ := hc
    obtain ⟨hL, rfl, hlc⟩ := hv
    have hcell : ∀ j, j < len * sz → ∃ u, w.cell? ⟨bl id, off + j, none⟩ = some u ∧ ∀ q, ds[off + j]? = some q → RepC G bl (There s.st) u q := fun j hj => by
      obtain ⟨u, h1, h2⟩ := h.cell hb hds (List.getElem?_eq_getElem (show off + j < ds.length by omega))
      exact ⟨u, h1, fun q hq => by rw [List.getElem?_eq_getElem (show off + j < ds.length by omega), Option.some.injEq] at hq; rw [← hq]; exact h2⟩
    have hch : ∀ j, ∃ u, j < len * sz → w.cell? ⟨bl id, off + j, none⟩ = some u ∧ ∀ q, ds[off + j]? = some q → RepC G bl (There s.st) u q := fun j => by
      by_cases hj : j < len * sz
      · obtain ⟨u, hu⟩ := hcell j hj; exact ⟨u, fun _ => hu⟩
      · exact ⟨.nilFunc, fun q => absurd q hj⟩
    let us := fun j => Classical.choose (hch j)
    have hus : ∀ j, j < len * sz → w.cell? ⟨bl id, off + j, none⟩ = some (us j) ∧ ∀ q, ds[off + j]? = some q → RepC G bl (There s.st) (us j) q := fun j => Classical.choose_spec (hch j)
    refine ⟨(List.range (len * sz)).map us, ?_, ⟨_, _, rfl⟩, fun w' hw => ?_⟩
    · refine All2.of_get (by simp; omega) fun i h3 h4 => ?_
      simp only [List.length_map, List.length_range] at h3
      simp only [List.getElem_map, List.getElem_range, List.getElem_take, List.getElem_drop]
      exact (hus i h3).2 _ (List.getElem?_eq_getElem (by omega))
    · simp only [Builtin.firstCells]
      exact run_loadCells w' _ _ us fun j hj => by rw [Addr.add_plain, cellEq w' hw]; exact (hus j hj).1
  · cases hc

theorem run_append_new {t u e ue : TypeId} {i ui ei : TI} (ht : tiOf P t = some i) (hk : i.k = .slice e) (hu : tiOf P u = some ui) (huk : ui.k = .slice ue) (he : tiOf P e = some ei) {z : List PC} (hz : ei.zero = some z)
    {base : Option Addr} {sLen sCap n : Nat} {ad : Option Addr} {xcap : Nat} {ty : TypeId} (hneed : sCap < sLen + n) (hbytes : ei.bytes ≠ 0) (hroom : (2 * (sLen + n) + 1000) * ei.bytes ≤ 2 ^ 48)
    {olds news : List Value} (ho : ∀ w' : World, w'.heap = w.heap → (Builtin.firstCells ei.size sLen (.slice base sLen sCap)).run P w' = .ok olds.toArray w')
    (hn : ∀ w' : World, w'.heap = w.heap → (Builtin.firstCells ei.size n (.slice ad n xcap)).run P w' = .ok news.toArray w') :
    ∃ c rest, sLen + n ≤ c ∧ (Builtin.append_ #[t, u] ty #[.slice base sLen sCap, .slice ad n xcap]).run P w = .ok (.slice (some ⟨w.heap.size, 0, none⟩) (sLen + n) c) { World.withNew w (olds ++ news ++ rest).toArray e with drawn := w.drawn + 1 } ∧
      All2 (IRep G) rest (repC (c - (sLen + n)) z) := by
  obtain ⟨inf, ud, hi, _, hs, hb, _⟩ := tiOf_parts he
  have w1h : ({ w with drawn := w.drawn + 1 } : World).heap = w.heap := rfl
  obtain ⟨zv, hzr, hza⟩ := run_zero (G := G) (w := { w with drawn := w.drawn + 1 }) he hz
  have hzsz : zv.cells.size = z.length := by have := hza.length; simpa using this
  have hsl := under_slice hu huk
  have hcap : ¬ (Builtin.nextslicecap (sLen + n) sCap * inf.bytes > 2 ^ 48) := by
    rw [hb]
    have := Nat.mul_le_mul_right ei.bytes (nextslicecap_le hneed)
    omega
  have hbi : inf.bytes ≠ 0 := by rw [hb]; exact hbytes
  have hnf : ¬ (((sLen + n : Nat) : Int) > IntKind.i64.max ∧ (false = true ∨ inf.bytes = 0)) := by
    rintro ⟨_, h | h⟩
    · exact Bool.false_ne_true h
    · exact hbi h
  have hnc : ¬ (sLen + n ≤ sCap) := by omega
  let c := (Question.appendCap (sLen + n) sCap e).cut (w.tape w.drawn (Question.appendCap (sLen + n) sCap e))
  have hc : sLen + n ≤ c := by show sLen + n ≤ (sLen + n) + _ % _; omega
  refine ⟨c, (Builtin.zeroCells zv.cells (c - (sLen + n))).toList, hc, ?_, ?_⟩
  · simp only [Builtin.append_, List.getElem?_toArray, List.getElem?_cons_zero, List.getElem?_cons_succ, Sem.run_bind, run_under (under_slice ht hk), Result.andThen_ok, run_sizeOf he, run_under hsl, Sem.run_pure]
    rw [if_neg Bool.false_ne_true]
    simp only [Builtin.lenOf, Sem.run_bind, Sem.run_pure, Result.andThen_ok]
    rw [if_neg hnc]
    simp only [Sem.run_bind, run_typeInfo hi, Result.andThen_ok]
    rw [if_neg hnf]
    simp only [Sem.run_bind, run_typeInfo hi, Result.andThen_ok]
    rw [if_neg hcap]
    have hch : (choose (Question.appendCap (sLen + n) sCap e)).run P w = .ok c { w with drawn := w.drawn + 1 } := rfl
    simp only [Sem.run_bind, hch, Result.andThen_ok, run_typeInfo hi, run_askRoom, Sem.run_bind, ho _ w1h, Bool.not_false, if_true, hn _ w1h, hzr, newRow, run_newObj, Sem.run_pure]
    simp only [World.withNew, c]
    congr 2
    congr 1
    congr 1
    apply Array.ext'
    simp
  · have := zeros_all2 (R := IRep G) hza (c - (sLen + n))
    unfold Builtin.zeroCells
    rw [hzsz] at *
    exact this

theorem evA_mk {mb : Bool} {o : Oper} {n : Nat} {cs : List PC} (h : RelA G bl a w s) (hv : evA P mb s o.op = .mk n cs) :
    ∃ u w', (execOp a.eval o).run P w = .ok (.value u) w' ∧ Made G w n cs u w' := by
  obtain ⟨dst, op, ty, pos, after, guard⟩ := o
  cases op <;> simp only [evA] at hv <;> try (cases hv; done)
  case move x => cases hx : s.pv x <;> rw [hx] at hv <;> simp [A1.ofPV] at hv
  case assign x => cases hx : s.pv x <;> rw [hx] at hv <;> simp [A1.ofPV] at hv
  case pick c x y =>
    split at hv <;> try (cases hv; done)
    rename_i t _
    cases hx : (if t = true then s.pv x else s.pv y) <;> rw [hx] at hv <;> simp [A1.ofPV] at hv
  case alloc t => (repeat' (split at hv)) <;> cases hv
  case box t x => (repeat' (split at hv)) <;> cases hv
  case build t parts =>
    repeat' (split at hv)
    all_goals try (cases hv; done)
    unfold A1.ofPE at hv; split at hv <;> cases hv
  case buildSlice t n' parts =>
    split at hv <;> try (cases hv; done)
    rename_i i ht
    split at hv <;> try (cases hv; done)
    rename_i e hk
    split at hv <;> try (cases hv; done)
    rename_i ei he
    split at hv <;> try (cases hv; done)
    rename_i z hz
    split at hv <;> try (cases hv; done)
    rename_i ps hps
    split at hv <;> try (cases hv; done)
    rename_i cs' hf
    split at hv <;> try (cases hv; done)
    rename_i hsz
    split at hv <;> try (cases hv; done)
    split at hv <;> try (cases hv; done)
    rename_i him
    simp only [A1.mk.injEq] at hv
    obtain ⟨rfl, rfl⟩ := hv
    simp only [not_or, Nat.not_lt, Decidable.not_not] at hsz
    obtain ⟨arr, h1, h2⟩ := run_buildSlice h ht hk he hz hsz.2 hps hf hsz.1
    refine ⟨_, _, ?_, .inr ⟨arr, e, 0, n', arr.toList, [], rfl, rfl, Nat.le_refl _, by simp, h2.irep_of_im him⟩⟩
    simp only [execOp, Sem.run_bind, h1, Result.andThen_ok, Sem.run_pure]
    rfl
  case load t x =>
    split at hv <;> try (cases hv; done)
    unfold A1.ofPE at hv; split at hv <;> cases hv
  case store t x y => (repeat' (split at hv)) <;> cases hv
  case nilCheck x => (repeat' (split at hv)) <;> cases hv
  case binOp => split at hv <;> try (cases hv; done)
                unfold A1.ofPC at hv; split at hv <;> cases hv
  case unOp => split at hv <;> try (cases hv; done)
               unfold A1.ofPC at hv; split at hv <;> cases hv
  case convert => (repeat' (split at hv)) <;> cases hv
  case makeSlice t l c => (repeat' (split at hv)) <;> cases hv
  case slice =>
    repeat' (split at hv)
    all_goals try (cases hv; done)
    unfold A1.ofPC at hv; split at hv <;> cases hv
  case fieldAddr =>
    split at hv <;> try (cases hv; done)
    unfold A1.ofPC at hv; split at hv <;> cases hv
  case field =>
    split at hv <;> try (cases hv; done)
    unfold A1.ofPE at hv; split at hv <;> cases hv
  case indexAddr =>
    repeat' (split at hv)
    all_goals try (cases hv; done)
    unfold A1.ofPC at hv; split at hv <;> cases hv
  case makeFunc =>
    unfold evF at hv; split at hv <;> cases hv
  case extract =>
    split at hv <;> try (cases hv; done)
    unfold A1.ofPE at hv; split at hv <;> cases hv
  case call c =>
    obtain ⟨callee, args, tys⟩ := c
    split at hv
    · rename_i hcal
      simp only at hcal
      subst hcal
      split at hv <;> try (cases hv; done)
      rename_i x y t u hargs htys
      have ha : args = #[x, y] := by cases args; simp at hargs; rw [hargs]
      have hty : tys = #[t, u] := by cases tys; simp at htys; rw [htys]
      subst ha; subst hty
      split at hv <;> try (cases hv; done)
      rename_i i ui ht hu
      split at hv <;> try (cases hv; done)
      rename_i e ue hk huk
      split at hv <;> try (cases hv; done)
      rename_i ei he
      unfold appA at hv
      split at hv <;> try (cases hv; done)
      rename_i m ds z hsl hz
      split at hv <;> try (cases hv; done)
      · rename_i hx
        split at hv <;> try (cases hv; done)
        rename_i hcond
        split at hv <;> try (cases hv; done)
        split at hv <;> try (cases hv; done)
        rename_i him
        simp only [not_or, Nat.not_lt, Decidable.not_not] at hcond
        simp only [A1.mk.injEq] at hv
        obtain ⟨rfl, rfl⟩ := hv
        have ex := IRep.nils_inv (h.pe hx)
        cases hy : s.pe y with
        | none => rw [hy] at hsl; simp [slCells] at hsl
        | some q =>
          rw [hy] at hsl
          obtain ⟨vs, hvs, ⟨ad, xcap, hyv⟩, hfc⟩ := h.st.firstCells (P := P) (h.pe hy) hsl
          rw [hyv] at hfc
          by_cases h0 : m = 0
          · subst h0
            have hd : ds = [] := by
              have hl := hvs.length
              unfold slCells at hsl
              repeat' (split at hsl)
              all_goals (try (cases hsl; done))
              · simp at hsl; exact hsl
              · rename_i hlen; simp at hsl; obtain ⟨rfl, rfl⟩ := hsl; simp at hlen; exact hlen
              · simp at hsl; obtain ⟨rfl, rfl⟩ := hsl; simp
            subst hd
            cases hvs
            refine ⟨.slice none 0 0, w, ?_, .inl ⟨rfl, IRep.nil⟩⟩
            simp only [execOp, resolve, Sem.run_bind, Sem.run_pure, Result.andThen_ok, invoke, builtin, Builtin.append_, List.map_toArray, List.map_cons, List.map_nil, ex, hyv, List.getElem?_toArray, List.getElem?_cons_zero,
              List.getElem?_cons_succ, run_under (under_slice ht hk), run_sizeOf he, run_under (under_slice hu huk)]
            simp [Builtin.lenOf, hfc w rfl]
          · obtain ⟨c, rest, hc, hr, hrest⟩ := run_append_new (P := P) (G := G) (w := w) (base := none) (sLen := 0) (sCap := 0) (n := m) (ad := ad) (xcap := xcap) (ty := ty) (olds := []) (news := vs) ht hk hu huk he hz (by omega) hcond.2.1 (by simpa using hcond.1)
              (fun w' _ => by simp [Builtin.firstCells]) hfc
            simp only [Nat.zero_add, List.nil_append] at hr hc
            refine ⟨_, _, ?_, .inr ⟨(vs ++ rest).toArray, e, 1, c, vs, rest, rfl, rfl, hc, by simp, hvs.irep_of_im him⟩⟩
            simp only [execOp, resolve, Sem.run_bind, Sem.run_pure, Result.andThen_ok, invoke, builtin, List.map_toArray, List.map_cons, List.map_nil, ex, hyv, hr]
      · split at hv <;> cases hv
    · unfold evB at hv
      repeat' (split at hv)
      all_goals try (cases hv; done)
      unfold A1.ofPC at hv; split at hv <;> cases hv
    · repeat' (split at hv)
      all_goals (cases hv)
    · cases hv

theorem setCell_row {b o : Nat} {v : Value} {arr : Array Value} {e : TypeId} (hb : w.heap[b]? = some (.cells arr e (0, 0))) :
    w.setCell ⟨b, o, none⟩ v = World.withRow w b (arr.setIfInBounds o v) e := by
  unfold World.setCell World.withRow
  congr 1
  apply Array.ext_getElem?
  intro i
  simp only [Array.getElem?_modify, Array.getElem?_setIfInBounds]
  by_cases hi : b = i
  · subst hi
    have : b < w.heap.size := by
      rcases Nat.lt_or_ge b w.heap.size with q | q
      · exact q
      · rw [Array.getElem?_eq_none q] at hb; simp at hb
    have hb' : w.heap[b] = .cells arr e (0, 0) := by rw [Array.getElem?_eq_getElem this, Option.some.injEq] at hb; exact hb
    simp [hb', this]
  · simp [hi]

theorem withRow_get {b : Nat} {arr arr' : Array Value} {e : TypeId} (hb : w.heap[b]? = some (.cells arr e (0, 0))) : (World.withRow w b arr' e).heap[b]? = some (.cells arr' e (0, 0)) := by
  have : b < w.heap.size := by
    rcases Nat.lt_or_ge b w.heap.size with q | q
    · exact q
    · rw [Array.getElem?_eq_none q] at hb; simp at hb
  simp [World.withRow, this]

theorem withRow_withRow {b : Nat} {arr arr' : Array Value} {e : TypeId} : World.withRow (World.withRow w b arr e) b arr' e = World.withRow w b arr' e := by
  simp [World.withRow]

theorem run_storeCells {b off : Nat} {e : TypeId} : ∀ (vs : List Value) (i : Nat) (w : World) (arr : Array Value), w.heap[b]? = some (.cells arr e (0, 0)) → off + i + vs.length ≤ arr.size → (∀ v ∈ vs, v.oneCell' = true) →
    vs ≠ [] → (storeCells ⟨b, off, none⟩ vs i).run P w = .ok () (World.withRow w b (List.foldl (fun cs (x : Value × Nat) => cs.setIfInBounds (off + x.2) x.1) arr (vs.zipIdx i)) e) := by
  intro vs
  induction vs with
  | nil => intro i w arr _ _ _ h; exact absurd rfl h
  | cons v vs ih =>
    intro i w arr hb hl ho _
    simp only [List.length_cons] at hl
    simp only [storeCells, Sem.run_bind, Addr.add_plain]
    have hcell : w.cell? ⟨b, off + i, none⟩ = some (arr[off + i]'(by omega)) := by
      simp only [World.cell?, hb]
      simp
    have hfz : w.frozen? ⟨b, off + i, none⟩ = false := by
      simp only [World.frozen?, hb]; simp
    rw [run_store P w _ v _ (ho v (by simp)), hcell]
    simp only [hfz, Bool.false_eq_true, if_false, Result.andThen_ok]
    rw [setCell_row hb]
    by_cases hn : vs = []
    · subst hn
      simp [storeCells]
    · rw [ih (i + 1) _ (arr.setIfInBounds (off + i) v) (withRow_get hb) (by simp; omega) (fun u hu => ho u (by simp [hu])) hn]
      rw [withRow_withRow]
      simp [List.zipIdx_cons]

theorem evA_sto {mb : Bool} {o : Oper} {id off : Nat} {cs : List PC} (h : RelA G bl a w s) (hv : evA P mb s o.op = .sto id off cs) {ds : List PC} (hlive : s.st[id]? = some (.live ds)) (hr : off + cs.length ≤ ds.length) (hne : cs ≠ []) :
    ∃ arr e arr', w.heap[bl id]? = some (.cells arr e (0, 0)) ∧ (execOp a.eval o).run P w = .ok .skip (World.withRow w (bl id) arr' e) ∧ All2 (RepC G bl (There s.st)) arr'.toList (splice ds off cs) := by
  obtain ⟨dst, op, ty, pos, after, guard⟩ := o
  cases op <;> simp only [evA] at hv <;> try (cases hv; done)
  case store t x y =>
    split at hv <;> try (cases hv; done)
    rename_i id' off' p i hx hy ht
    split at hv <;> try (cases hv; done)
    rename_i hsz
    simp only [A1.sto.injEq] at hv
    obtain ⟨rfl, rfl, rfl⟩ := hv
    obtain ⟨arr, e, hb, ha, _⟩ := h.st.live _ _ hlive
    obtain ⟨hL, ex⟩ := h.pe hx
    have hc := (h.pe hy).cells
    have hcl := hc.length
    have hal := ha.length
    have hone : ∀ v ∈ (a.eval y).cells.toList, v.oneCell' = true := by
      intro v hv
      obtain ⟨j, hj, rfl⟩ := List.getElem_of_mem hv
      obtain ⟨p', _, r⟩ := hc.get' j _ (List.getElem?_eq_getElem hj)
      exact RepC.oneCell r
    have hvne : (a.eval y).cells.toList ≠ [] := by
      intro hnil
      rw [hnil] at hcl
      exact hne (List.eq_nil_of_length_eq_zero hcl.symm)
    have hst := run_storeCells (P := P) (b := bl id') (off := off') (e := e) (a.eval y).cells.toList 0 w arr hb (by simp at hal hcl ⊢; omega) hone hvne
    refine ⟨arr, e, List.foldl (fun cs (x : Value × Nat) => cs.setIfInBounds (off' + x.2) x.1) arr ((a.eval y).cells.toList.zipIdx 0), hb, ?_, ?_⟩
    · have hsz' : ¬ ((a.eval y).cells.size ≠ i.size) := by simp at hcl ⊢; omega
      simp only [execOp, Instr.storeAt, Instr.sureAddr, Sem.run_bind, ex, Sem.run_pure, Result.andThen_ok, storeVar, run_sizeOf ht, if_neg hsz', hst]
    · have := foldl_set (a.eval y).cells.toList arr off' 0 (by simp at hal hcl ⊢; omega)
      rw [this]
      simp only [Nat.add_zero]
      exact ha.splice off' hc
  case move x => cases hx : s.pv x <;> rw [hx] at hv <;> simp [A1.ofPV] at hv
  case assign x => cases hx : s.pv x <;> rw [hx] at hv <;> simp [A1.ofPV] at hv
  case pick c x y =>
    split at hv <;> try (cases hv; done)
    rename_i t _
    cases hx : (if t = true then s.pv x else s.pv y) <;> rw [hx] at hv <;> simp [A1.ofPV] at hv
  case alloc t => (repeat' (split at hv)) <;> cases hv
  case box t x => (repeat' (split at hv)) <;> cases hv
  case build t parts =>
    repeat' (split at hv)
    all_goals try (cases hv; done)
    unfold A1.ofPE at hv; split at hv <;> cases hv
  case buildSlice t n' parts => (repeat' (split at hv)) <;> cases hv
  case load t x =>
    split at hv <;> try (cases hv; done)
    unfold A1.ofPE at hv; split at hv <;> cases hv
  case nilCheck x => (repeat' (split at hv)) <;> cases hv
  case binOp => split at hv <;> try (cases hv; done)
                unfold A1.ofPC at hv; split at hv <;> cases hv
  case unOp => split at hv <;> try (cases hv; done)
               unfold A1.ofPC at hv; split at hv <;> cases hv
  case convert => (repeat' (split at hv)) <;> cases hv
  case makeSlice t l c => (repeat' (split at hv)) <;> cases hv
  case slice =>
    repeat' (split at hv)
    all_goals try (cases hv; done)
    unfold A1.ofPC at hv; split at hv <;> cases hv
  case fieldAddr =>
    split at hv <;> try (cases hv; done)
    unfold A1.ofPC at hv; split at hv <;> cases hv
  case field =>
    split at hv <;> try (cases hv; done)
    unfold A1.ofPE at hv; split at hv <;> cases hv
  case indexAddr =>
    repeat' (split at hv)
    all_goals try (cases hv; done)
    unfold A1.ofPC at hv; split at hv <;> cases hv
  case makeFunc =>
    unfold evF at hv; split at hv <;> cases hv
  case extract =>
    split at hv <;> try (cases hv; done)
    unfold A1.ofPE at hv; split at hv <;> cases hv
  case call c =>
    split at hv
    · repeat' (split at hv)
      all_goals try (cases hv; done)
      unfold appA at hv
      repeat' (split at hv)
      all_goals (cases hv)
    · unfold evB at hv
      repeat' (split at hv)
      all_goals try (cases hv; done)
      unfold A1.ofPC at hv; split at hv <;> cases hv
    · repeat' (split at hv)
      all_goals (cases hv)
    · cases hv

theorem heap_lt0 {w : World} {b : Nat} {o : Obj} (h : w.heap[b]? = some o) : b < w.heap.size := by
  rcases Nat.lt_or_ge b w.heap.size with q | q
  · exact q
  · rw [Array.getElem?_eq_none q] at h; simp at h
def Appd (G : GMem) (bl : Nat → Nat) (w : World) (s : St) (r : Result Next) : Option (Nat × Nat × Nat × Nat) → Nat → List PC → Nat → List PC → Prop
  | none, _, z, n, cs => (n = 0 ∧ r = .ok (.value (.slice none 0 0)) w) ∨
      (n ≠ 0 ∧ ∃ c arr e, n ≤ c ∧ r = .ok (.value (.slice (some ⟨w.heap.size, 0, none⟩) n c)) { World.withNew w arr e with drawn := w.drawn + 1 } ∧ All2 (RepC G bl (There s.st)) arr.toList (cs ++ repC (c - n) z))
  | some (id, off, len, cap), sz, z, n, cs => There s.st id ∧ len ≤ cap ∧ ∀ ds, s.st[id]? = some (.live ds) →
      (len + n ≤ cap → off + (len + n) * sz ≤ ds.length → ∃ arr e arr', w.heap[bl id]? = some (.cells arr e (0, 0)) ∧ r = .ok (.value (.slice (some ⟨bl id, off, none⟩) (len + n) cap)) (World.withRow w (bl id) arr' e) ∧ All2 (RepC G bl (There s.st)) arr'.toList (splice ds (off + len * sz) cs)) ∧
      (cap < len + n → off + len * sz ≤ ds.length → ∃ c arr e, len + n ≤ c ∧ r = .ok (.value (.slice (some ⟨w.heap.size, 0, none⟩) (len + n) c)) { World.withNew w arr e with drawn := w.drawn + 1 } ∧
        All2 (RepC G bl (There s.st)) arr.toList ((ds.drop off).take (len * sz) ++ cs ++ repC (c - (len + n)) z))

theorem slCells_len {σ : List Box} {size : Nat} {p : PE} {n : Nat} {cs : List PC} (h : slCells σ size (some p) = some (n, cs)) : cs.length = n * size := by
  unfold slCells at h
  split at h
  · simp at h; obtain ⟨rfl, rfl⟩ := h; simp
  · split at h <;> simp at h
    rename_i hl
    obtain ⟨rfl, rfl⟩ := h
    exact hl
  · split at h <;> try (cases h; done)
    split at h <;> try (cases h; done)
    split at h <;> simp at h
    rename_i hc
    obtain ⟨rfl, rfl⟩ := h
    simp
    have := hc.2
    omega
  · cases h

theorem evA_app {mb : Bool} {o : Oper} {base : Option (Nat × Nat × Nat × Nat)} {sz n : Nat} {z cs : List PC} (h : RelA G bl a w s) (hv : evA P mb s o.op = .app base sz z n cs) :
    Appd G bl w s ((execOp a.eval o).run P w) base sz z n cs := by
  obtain ⟨dst, op, ty, pos, after, guard⟩ := o
  cases op <;> simp only [evA] at hv <;> try (cases hv; done)
  case call c =>
    obtain ⟨callee, args, tys⟩ := c
    split at hv
    · rename_i hcal
      simp only at hcal
      subst hcal
      split at hv <;> try (cases hv; done)
      rename_i x y t u hargs htys
      have ha : args = #[x, y] := by cases args; simp at hargs; rw [hargs]
      have hty : tys = #[t, u] := by cases tys; simp at htys; rw [htys]
      subst ha; subst hty
      split at hv <;> try (cases hv; done)
      rename_i i ui ht hu
      split at hv <;> try (cases hv; done)
      rename_i e ue hk huk
      split at hv <;> try (cases hv; done)
      rename_i ei he
      unfold appA at hv
      split at hv <;> try (cases hv; done)
      rename_i m ds z' hsl hz
      cases hy : s.pe y with
      | none => rw [hy] at hsl; simp [slCells] at hsl
      | some q =>
      rw [hy] at hsl
      obtain ⟨vs, hvs, ⟨ad, xcap, hyv⟩, hfc⟩ := h.st.firstCells (P := P) (h.pe hy) hsl
      have hdl := slCells_len hsl
      rw [hyv] at hfc
      split at hv <;> try (cases hv; done)
      · rename_i hx
        split at hv <;> try (cases hv; done)
        rename_i hcond
        split at hv
        case isFalse => split at hv <;> cases hv
        case isTrue hmb =>
        simp only [not_or, Nat.not_lt, Decidable.not_not] at hcond
        simp only [A1.app.injEq] at hv
        obtain ⟨rfl, rfl, rfl, rfl, rfl⟩ := hv
        have ex := IRep.nils_inv (h.pe hx)
        by_cases h0 : m = 0
        · subst h0
          refine .inl ⟨rfl, ?_⟩
          simp only [execOp, resolve, Sem.run_bind, Sem.run_pure, Result.andThen_ok, invoke, builtin, Builtin.append_, List.map_toArray, List.map_cons, List.map_nil, ex, hyv, List.getElem?_toArray, List.getElem?_cons_zero,
            List.getElem?_cons_succ, run_under (under_slice ht hk), run_sizeOf he, run_under (under_slice hu huk)]
          simp [Builtin.lenOf, hfc w rfl]
        · obtain ⟨c, rest, hc, hr, hrest⟩ := run_append_new (P := P) (G := G) (w := w) (base := none) (sLen := 0) (sCap := 0) (n := m) (ad := ad) (xcap := xcap) (ty := ty) (olds := []) (news := vs) ht hk hu huk he hz (by omega) hcond.2.1 (by simpa using hcond.1)
            (fun w' _ => by simp [Builtin.firstCells]) hfc
          simp only [Nat.zero_add, List.nil_append] at hr hc hrest
          refine .inr ⟨h0, c, (vs ++ rest).toArray, e, hc, ?_, ?_⟩
          · simp only [execOp, resolve, Sem.run_bind, Sem.run_pure, Result.andThen_ok, invoke, builtin, List.map_toArray, List.map_cons, List.map_nil, ex, hyv, hr]
          · exact hvs.append (hrest.mono fun _ _ => RepC.of_irep)
      · rename_i id off len cap sz' hx
        split at hv <;> try (cases hv; done)
        rename_i hcond
        simp only [not_or, Nat.not_lt, Decidable.not_not] at hcond
        simp only [A1.app.injEq] at hv
        obtain ⟨rfl, rfl, rfl, rfl, rfl⟩ := hv
        obtain ⟨hL, ex, hlc⟩ := h.pe hx
        obtain ⟨hroom, hbytes, hzl, rfl⟩ := hcond
        refine ⟨hL, hlc, fun bs hlive => ⟨fun hfit hlen => ?_, fun hno hlen => ?_⟩⟩
        · obtain ⟨arr, e', hb, haa, _⟩ := h.st.live _ _ hlive
          have hal := haa.length
          have hvl := hvs.length
          by_cases hvne : vs = []
          · subst hvne
            have hds : ds = [] := List.eq_nil_of_length_eq_zero hvl.symm
            subst hds
            have hw : World.withRow w (bl id) arr e' = w := by
              simp only [World.withRow]
              have : w.heap.setIfInBounds (bl id) (.cells arr e' (0, 0)) = w.heap := by
                apply Array.ext_getElem?
                intro j
                by_cases hj : bl id = j
                · subst hj
                  rw [Array.getElem?_setIfInBounds_self]
                  have hlt := heap_lt0 hb
                  rw [if_pos hlt, hb]
                · rw [Array.getElem?_setIfInBounds_ne hj]
              rw [this]
            refine ⟨arr, e', arr, hb, ?_, ?_⟩
            · rw [hw]
              simp only [execOp, resolve, Sem.run_bind, Sem.run_pure, Result.andThen_ok, invoke, builtin, Builtin.append_, List.map_toArray, List.map_cons, List.map_nil, ex, hyv, List.getElem?_toArray, List.getElem?_cons_zero,
                List.getElem?_cons_succ, run_under (under_slice ht hk), run_sizeOf he, run_under (under_slice hu huk)]
              simp [Builtin.lenOf, hfc w rfl, hfit, Addr.add_plain, storeCells]
            · have : splice bs (off + len * ei.size) [] = bs := by simp [splice]
              rw [this]; exact haa
          have hone : ∀ v ∈ vs, v.oneCell' = true := by
            intro v hv
            obtain ⟨j, hj, rfl⟩ := List.getElem_of_mem hv
            obtain ⟨p', _, r⟩ := hvs.get' j _ (List.getElem?_eq_getElem hj)
            exact RepC.oneCell r
          have hmul : (len + m) * ei.size = len * ei.size + m * ei.size := Nat.add_mul _ _ _
          have hst := run_storeCells (P := P) (b := bl id) (off := off + len * ei.size) (e := e') vs 0 w arr hb (by simp at hal; omega) hone hvne
          refine ⟨arr, e', List.foldl (fun cs (x : Value × Nat) => cs.setIfInBounds (off + len * ei.size + x.2) x.1) arr (vs.zipIdx 0), hb, ?_, ?_⟩
          · simp only [execOp, resolve, Sem.run_bind, Sem.run_pure, Result.andThen_ok, invoke, builtin, Builtin.append_, List.map_toArray, List.map_cons, List.map_nil, ex, hyv, List.getElem?_toArray, List.getElem?_cons_zero,
              List.getElem?_cons_succ, run_under (under_slice ht hk), run_sizeOf he, run_under (under_slice hu huk)]
            simp [Builtin.lenOf, hfc w rfl, hfit, Addr.add_plain, hst]
          · have := foldl_set vs arr (off + len * ei.size) 0 (by simp at hal; omega)
            rw [this]
            simp only [Nat.add_zero]
            exact haa.splice (off + len * ei.size) hvs
        · have hsl2 : slCells s.st ei.size (some (.c (.msl id off len cap ei.size))) = some (len, (bs.drop off).take (len * ei.size)) := by
            simp [slCells, hlive, Box.cells?, hlen]
          obtain ⟨olds, holds, ⟨ad2, xcap2, hxv⟩, hfo⟩ := h.st.firstCells (P := P) (h.pe hx) hsl2
          rw [ex] at hfo
          obtain ⟨c, rest, hc, hr, hrest⟩ := run_append_new (P := P) (G := G) (w := w) (base := some ⟨bl id, off, none⟩) (sLen := len) (sCap := cap) (n := m) (ad := ad) (xcap := xcap) (ty := ty) (olds := olds) (news := vs) ht hk hu huk he hz hno hbytes hroom hfo hfc
          refine ⟨c, (olds ++ vs ++ rest).toArray, e, hc, ?_, (holds.append hvs).append (hrest.mono fun _ _ => RepC.of_irep)⟩
          simp only [execOp, resolve, Sem.run_bind, Sem.run_pure, Result.andThen_ok, invoke, builtin, List.map_toArray, List.map_cons, List.map_nil, ex, hyv, hr]
    · unfold evB at hv
      repeat' (split at hv)
      all_goals try (cases hv; done)
      unfold A1.ofPC at hv; split at hv <;> cases hv
    · repeat' (split at hv)
      all_goals (cases hv)
    · cases hv
  case move x => cases hx : s.pv x <;> rw [hx] at hv <;> simp [A1.ofPV] at hv
  case assign x => cases hx : s.pv x <;> rw [hx] at hv <;> simp [A1.ofPV] at hv
  case pick c x y =>
    split at hv <;> try (cases hv; done)
    rename_i t _
    cases hx : (if t = true then s.pv x else s.pv y) <;> rw [hx] at hv <;> simp [A1.ofPV] at hv
  case alloc t => (repeat' (split at hv)) <;> cases hv
  case box t x => (repeat' (split at hv)) <;> cases hv
  case build t parts =>
    repeat' (split at hv)
    all_goals try (cases hv; done)
    unfold A1.ofPE at hv; split at hv <;> cases hv
  case buildSlice t n' parts => (repeat' (split at hv)) <;> cases hv
  case load t x =>
    split at hv <;> try (cases hv; done)
    unfold A1.ofPE at hv; split at hv <;> cases hv
  case store t x y => (repeat' (split at hv)) <;> cases hv
  case nilCheck x => (repeat' (split at hv)) <;> cases hv
  case binOp => split at hv <;> try (cases hv; done)
                unfold A1.ofPC at hv; split at hv <;> cases hv
  case unOp => split at hv <;> try (cases hv; done)
               unfold A1.ofPC at hv; split at hv <;> cases hv
  case convert => (repeat' (split at hv)) <;> cases hv
  case makeSlice t l c => (repeat' (split at hv)) <;> cases hv
  case slice =>
    repeat' (split at hv)
    all_goals try (cases hv; done)
    unfold A1.ofPC at hv; split at hv <;> cases hv
  case fieldAddr =>
    split at hv <;> try (cases hv; done)
    unfold A1.ofPC at hv; split at hv <;> cases hv
  case field =>
    split at hv <;> try (cases hv; done)
    unfold A1.ofPE at hv; split at hv <;> cases hv
  case indexAddr =>
    repeat' (split at hv)
    all_goals try (cases hv; done)
    unfold A1.ofPC at hv; split at hv <;> cases hv
  case makeFunc =>
    unfold evF at hv; split at hv <;> cases hv
  case extract =>
    split at hv <;> try (cases hv; done)
    unfold A1.ofPE at hv; split at hv <;> cases hv

def Enters (P : Program) (f : FuncId) : Prop := ∃ fn, P.funcs[f]? = some fn ∧ (fn.name == "runtime.NumGoroutine") = false ∧ fn.body.isNone = false

theorem run_callFunc {f : FuncId} (hf : Enters P f) (vs : Array Value) : (callFunc f vs).run P w = .ok (.enter f vs) w := by
  obtain ⟨fn, h1, h2, h3⟩ := hf
  simp only [callFunc, Sem.run_bind, run_program, Result.andThen_ok, h1, h2, h3, Bool.false_eq_true, if_false, Sem.run_pure]

theorem evA_call {mb : Bool} {o : Oper} {f : FuncId} {l : List PE} (h : RelA G bl a w s) (hv : evA P mb s o.op = .call f l) (hf : Enters P f) :
    ∃ vs : Array Value, (execOp a.eval o).run P w = .ok (.enter f vs) w ∧ All2 (RepE G bl (There s.st)) vs.toList l := by
  obtain ⟨dst, op, ty, pos, after, guard⟩ := o
  cases op <;> simp only [evA] at hv <;> try (cases hv; done)
  case call c =>
    obtain ⟨callee, args, tys⟩ := c
    split at hv
    · repeat' (split at hv)
      all_goals try (cases hv; done)
      unfold appA at hv
      repeat' (split at hv)
      all_goals (cases hv)
    · unfold evB at hv
      repeat' (split at hv)
      all_goals try (cases hv; done)
      unfold A1.ofPC at hv; split at hv <;> cases hv
    · rename_i g hcal
      simp only at hcal
      subst hcal
      split at hv <;> try (cases hv; done)
      · rename_i f' l' hg hl
        simp only [A1.call.injEq] at hv
        obtain ⟨rfl, rfl⟩ := hv
        have e := IRep.fn_inv (h.pe hg)
        refine ⟨args.map a.eval, ?_, by rw [Array.toList_map]; exact (h.peAll hl).normE⟩
        simp only [execOp, resolve, Sem.run_bind, e, Deferred.ofValue, Sem.run_pure, Result.andThen_ok, invoke, run_callFunc hf]
        simp
      · rename_i f' ps l' hg hl
        simp only [A1.call.injEq] at hv
        obtain ⟨rfl, rfl⟩ := hv
        obtain ⟨arr, e, hps, hL⟩ := h.pe hg
        refine ⟨args.map a.eval ++ arr, ?_, ?_⟩
        · simp only [execOp, resolve, Sem.run_bind, e, Deferred.ofValue, Sem.run_pure, Result.andThen_ok, invoke, run_callFunc hf]
          simp
        · rw [Array.toList_append, Array.toList_map]
          refine (h.peAll hl).normE.append ?_
          rw [hps]
          clear hps e hg
          induction ps with
          | nil => exact .nil
          | cons p ps ih => exact .cons ⟨hL p (by simp), rfl⟩ (ih fun q hq => hL q (by simp [hq]))
    · cases hv
  case move x => cases hx : s.pv x <;> rw [hx] at hv <;> simp [A1.ofPV] at hv
  case assign x => cases hx : s.pv x <;> rw [hx] at hv <;> simp [A1.ofPV] at hv
  case pick c x y =>
    split at hv <;> try (cases hv; done)
    rename_i t _
    cases hx : (if t = true then s.pv x else s.pv y) <;> rw [hx] at hv <;> simp [A1.ofPV] at hv
  case alloc t => (repeat' (split at hv)) <;> cases hv
  case box t x => (repeat' (split at hv)) <;> cases hv
  case build t parts =>
    repeat' (split at hv)
    all_goals try (cases hv; done)
    unfold A1.ofPE at hv; split at hv <;> cases hv
  case buildSlice t n' parts => (repeat' (split at hv)) <;> cases hv
  case load t x =>
    split at hv <;> try (cases hv; done)
    unfold A1.ofPE at hv; split at hv <;> cases hv
  case store t x y => (repeat' (split at hv)) <;> cases hv
  case nilCheck x => (repeat' (split at hv)) <;> cases hv
  case binOp => split at hv <;> try (cases hv; done)
                unfold A1.ofPC at hv; split at hv <;> cases hv
  case unOp => split at hv <;> try (cases hv; done)
               unfold A1.ofPC at hv; split at hv <;> cases hv
  case convert => (repeat' (split at hv)) <;> cases hv
  case makeSlice t l c => (repeat' (split at hv)) <;> cases hv
  case slice =>
    repeat' (split at hv)
    all_goals try (cases hv; done)
    unfold A1.ofPC at hv; split at hv <;> cases hv
  case fieldAddr =>
    split at hv <;> try (cases hv; done)
    unfold A1.ofPC at hv; split at hv <;> cases hv
  case field =>
    split at hv <;> try (cases hv; done)
    unfold A1.ofPE at hv; split at hv <;> cases hv
  case indexAddr =>
    repeat' (split at hv)
    all_goals try (cases hv; done)
    unfold A1.ofPC at hv; split at hv <;> cases hv
  case makeFunc =>
    unfold evF at hv; split at hv <;> cases hv
  case extract =>
    split at hv <;> try (cases hv; done)
    unfold A1.ofPE at hv; split at hv <;> cases hv

end
end Go.PL

namespace Go.PL
open Go.RowKit

structure Env where
  w0 : World
  G0 : GMem
  bl0 : Nat → Nat
  n0 : Nat

structure Ext (E : Env) (G : GMem) (bl : Nat → Nat) (w : World) (σ : List Box) : Prop where
  os : w.os = E.w0.os
  tape : w.tape = E.w0.tape
  output : w.output = E.w0.output
  size : E.w0.heap.size ≤ w.heap.size
  block : ∀ k, k < E.w0.heap.size → (∀ id, id < E.n0 → E.bl0 id ≠ k) → w.heap[k]? = E.w0.heap[k]?
  gle : GLe E.G0 G
  gnew : ∀ b o u, G b o = some u → E.G0 b o = some u ∨ E.w0.heap.size ≤ b
  same : ∀ id, id < E.n0 → bl id = E.bl0 id
  fresh : ∀ id cs, E.n0 ≤ id → σ[id]? = some (.live cs) → E.w0.heap.size ≤ bl id
  len : E.n0 ≤ σ.length

structure Rel (E : Env) (a : Act) (w : World) (s : St) (G : GMem) (bl : Nat → Nat) : Prop where
  rel : RelA G bl a w s
  ext : Ext E G bl w s.st

def Ret (P : Program) (f : FuncId) (args : List PE) (r : PV) : Prop :=
  Enters P f ∧ ∀ (G : GMem) (w : World) (vs : Array Value), Agree G w → All2 (RepE G (fun _ => 0) (fun _ => False)) vs.toList args →
    Calls P f vs w fun e w' => ∃ v G', e = .returned v ∧ RepV G' (fun _ => 0) (fun _ => False) v r ∧ Agree G' w' ∧ GLe G G' ∧ (∀ b o u, G' b o = some u → G b o = some u ∨ w.heap.size ≤ b) ∧ Below w.heap.size w w'

def RetM (P : Program) (f : FuncId) (args : List PE) (σ : List Box) (R : PV → List Box → Prop) : Prop :=
  Enters P f ∧ ∀ (G : GMem) (bl : Nat → Nat) (w : World) (vs : Array Value), RelS G bl w σ → All2 (RepE G bl (There σ)) vs.toList args →
    Calls P f vs w fun e w' => ∃ v r σ' G' bl', e = .returned v ∧ R r σ' ∧ RepV G' bl' (There σ') v r ∧ RelS G' bl' w' σ' ∧ (∀ id, There σ id → There σ' id) ∧ σ.length ≤ σ'.length ∧
      (∀ id, id < σ.length → bl' id = bl id) ∧ (∀ id cs, σ.length ≤ id → σ'[id]? = some (.live cs) → w.heap.size ≤ bl' id) ∧ (∀ id cs, σ'[id]? = some (.live cs) → id < σ.length → ∃ cs', σ[id]? = some (.live cs')) ∧
      GLe G G' ∧ (∀ b o u, G' b o = some u → G b o = some u ∨ w.heap.size ≤ b) ∧ w'.os = w.os ∧ w'.tape = w.tape ∧ w'.output = w.output ∧ w.heap.size ≤ w'.heap.size ∧
      ∀ k, k < w.heap.size → (∀ id cs, σ[id]? = some (.live cs) → bl id ≠ k) → w'.heap[k]? = w.heap[k]?

def RetW (P : Program) (f : FuncId) (args : List PE) (id : Nat) (cs : List PC) (r : PV) (cs' : List PC) : Prop :=
  ∀ σ : List Box, σ[id]? = some (.live cs) → RetM P f args σ fun r' σ' => r' = r ∧ σ' = σ.set id (.live cs')

theorem RepE.of_im {G : GMem} {bl bl' : Nat → Nat} {L L' : Nat → Prop} {v : Value} {p : PE} (h : RepE G bl L v p) (hi : p.im = true) : RepE G bl' L' v p := by
  cases p with
  | c p => exact RepC.of_irep (RepC.irep h hi)
  | a cs => obtain ⟨arr, h1, h2⟩ := h; exact ⟨arr, h1, (h2.irep_of_im hi).mono fun _ _ => RepC.of_irep⟩

theorem RepC.of_false {G : GMem} {bl bl' : Nat → Nat} {L : Nat → Prop} {v : Value} {p : PC} (h : RepC G bl (fun _ => False) v p) : RepC G bl' L v p :=
  RepC.mono (GLe.refl G) (fun _ h => h.elim) (fun _ h => h.elim) h
theorem RepV.of_false {G : GMem} {bl bl' : Nat → Nat} {L : Nat → Prop} {v : Value} {p : PV} (h : RepV G bl (fun _ => False) v p) : RepV G bl' L v p :=
  RepV.mono (GLe.refl G) (fun _ h => h.elim) (fun _ h => h.elim) h

def St.put (s : St) (d : Option Tmp) (v : PV) : St :=
  match d with
  | some d => { s with slots := s.slots.set d v }
  | none => s

def St.box (s : St) (id : Nat) (cs : List PC) : St := { s with st := s.st.set id (.live cs) }

@[simp] theorem St.put_st (s : St) (d : Option Tmp) (v : PV) : (s.put d v).st = s.st := by cases d <;> rfl

def isNew : Op → Bool
  | .alloc _ | .box _ _ | .makeSlice _ _ _ | .buildSlice _ _ _ => true
  | .call { callee := .builtin .append, .. } => true
  | _ => false

def nid (ops : List Oper) (nb i : Nat) : Nat := nb + ((ops.take i).filter fun o => isNew o.op).length

def wantedP (ops : List Oper) (s : St) (o : Oper) : Option Bool :=
  match o.guard with
  | none => some true
  | some (j, want) => match (ops[j]?).bind (·.dst) with
    | some d => match s.slots[d]? with
      | some (.e (.c (.bool b))) => some (b == want)
      | some (.t []) => some false
      | _ => none
    | none => none

structure Md where
  mb : Bool := false
  ap : Bool := false
  dr : Bool := false
  fz : Bool := true
  wf : FuncId → Bool := fun _ => false
  ow : FuncId → Bool := fun _ => false
  hv : FuncId → Bool := fun _ => false

def frz1 (s : St) (id : Nat) : St :=
  match s.st[id]? with
  | some (.live cs) => if cs.all PC.im then { s with st := s.st.set id (.frz cs) } else s
  | _ => s
def frzIds : List PC → List Nat
  | [] => []
  | .msl id _ _ _ _ :: l => id :: frzIds l
  | _ :: l => frzIds l
def frzE (s : St) (p : PE) : St := (frzIds p.cells).foldl frz1 s
def frzL (s : St) (l : List PE) : St := l.foldl frzE s
def immC (σ : List Box) : PC → PC
  | .msl id off len cap sz => match σ[id]? with
    | some (.frz cs) => if off + len * sz ≤ cs.length then .sl len ((cs.drop off).take (len * sz)) else .msl id off len cap sz
    | _ => .msl id off len cap sz
  | p => p
def immE (σ : List Box) : PE → PE
  | .c p => .c (immC σ p)
  | .a cs => .a (cs.map (immC σ))

def calleeOf : Op → Option FuncId
  | .call { callee := .value (.func f), .. } => some f
  | _ => none
def wfOp (md : Md) (op : Op) : Bool := match calleeOf op with | some f => md.wf f | none => false

def callS (P : Program) (md : Md) (wf : Bool) (dst : Option Tmp) (K : St → Prop) (s : St) (f : FuncId) (l : List PE) : Prop :=
  if wf = true then ∃ id off rest cs cs' r, l = .c (.ptr id off) :: rest ∧ s.st[id]? = some (.live cs) ∧ RetW P f l id cs r cs' ∧ K ((s.box id cs').put dst r)
  else if l.all PE.im = true ∧ (md.dr = true ∨ md.ow f = false) then ∃ r, Ret P f l r ∧ K (s.put dst r)
  else md.dr = false ∧ ((md.fz = true ∧ ((l.map (immE (frzL s l).st)).all PE.im = true ∧ ∃ r, Ret P f (l.map (immE (frzL s l).st)) r ∧ K ((frzL s l).put dst r))) ∨
    (md.ap = false ∧ ∃ R, RetM P f l s.st R ∧ ∀ r σ', R r σ' → K ({ s with st := σ' }.put dst r)) ∨ (md.ap = true ∧ ∃ R, RetM P f l s.st R ∧ (∃ r σ', R r σ') ∧ ∀ r σ', R r σ' → K ({ s with st := σ' }.put dst r)))

def actS (P : Program) (md : Md) (wf : Bool) (nid : Nat) (dst : Option Tmp) (K : St → Prop) (s : St) : A1 → Prop
  | .val v => K (s.put dst v)
  | .mk n cs => K (s.put dst (.e (.c (.sl n cs))))
  | .new v cs => s.st[nid]? = some .gone ∧ K ((s.box nid cs).put dst (v nid))
  | .sto id off cs => ∃ ds, s.st[id]? = some (.live ds) ∧ off + cs.length ≤ ds.length ∧ cs ≠ [] ∧ K ((s.box id (splice ds off cs)).put dst (.t []))
  | .call f l => callS P md wf dst K s f l
  | .app base sz z n cs => md.dr = false ∧ match base with
    | none => (n = 0 → K (s.put dst (.e (.c .nils)))) ∧ (n ≠ 0 → s.st[nid]? = some .gone ∧ ∀ c, n ≤ c → K ((s.box nid (cs ++ repC (c - n) z)).put dst (.e (.c (.msl nid 0 n c sz)))))
    | some (id, off, len, cap) => ∃ ds, s.st[id]? = some (.live ds) ∧
        (len + n ≤ cap → off + (len + n) * sz ≤ ds.length ∧ K ((s.box id (splice ds (off + len * sz) cs)).put dst (.e (.c (.msl id off (len + n) cap sz))))) ∧
        (cap < len + n → off + len * sz ≤ ds.length ∧ s.st[nid]? = some .gone ∧ ∀ c, len + n ≤ c → K ((s.box nid ((ds.drop off).take (len * sz) ++ cs ++ repC (c - (len + n)) z)).put dst (.e (.c (.msl nid 0 (len + n) c sz)))))
  | .bad => False

def heavy (md : Md) : Op → Bool
  | .call { callee := .builtin .append, .. } => true
  | .call { callee := .value (.tmp _), .. } => true
  | .call { callee := .value (.func f), .. } => md.hv f
  | _ => false
def mdOf (md : Md) (op : Op) : Md := match md.dr, md.ap, heavy md op with
  | true, true, true => { md with dr := false, fz := false }
  | _, _, _ => md
theorem mdOf_mb (md : Md) (op : Op) : (mdOf md op).mb = md.mb := by unfold mdOf; split <;> rfl
theorem mdOf_wf (md : Md) (op : Op) : (mdOf md op).wf = md.wf := by unfold mdOf; split <;> rfl
theorem mdOf_fz (md : Md) (op : Op) (h : (mdOf md op).fz = true) : md.fz = true := by
  unfold mdOf at h; split at h
  · cases h
  · exact h
theorem mdOf_wfOp (md : Md) (op : Op) : wfOp (mdOf md op) op = wfOp md op := by unfold wfOp; rw [mdOf_wf]
theorem mdOf_n {md : Md} {op : Op} (h : md.ap = false ∨ heavy md op = false) : mdOf md op = md := by
  unfold mdOf
  split
  · rename_i h1 h2
    rcases h with q | q
    · rw [h1] at q; cases q
    · rw [h2] at q; cases q
  · rfl
theorem mdOf_y {md : Md} {op : Op} (hd : md.dr = true) (h : md.ap = true) (h' : heavy md op = true) : mdOf md op = { md with dr := false, fz := false } := by
  unfold mdOf; simp only [hd, h, h']

def step1 (P : Program) (md : Md) (ops : List Oper) (nid : Nat) (o : Oper) (K : St → Prop) (s : St) : Prop :=
  match wantedP ops s o with
  | some true => actS P (mdOf md o.op) (wfOp md o.op) nid o.dst K s (evA P md.mb s o.op)
  | some false => K (s.put o.dst (.t []))
  | none => False

section
variable {P : Program} {E : Env} {a : Act} {w : World} {s : St} {G : GMem} {bl : Nat → Nat}

theorem RelA.put (h : RelA G bl a w s) (d : Option Tmp) {u : Value} {v : PV} (hv : RepV G bl (There s.st) u v) : RelA G bl (a.put d u) w (s.put d v) := by
  cases d with
  | none => exact h
  | some d =>
    refine ⟨?_, h.defers, h.st⟩
    simp only [Act.put, St.put, Array.toList_setIfInBounds]
    exact h.slots.set d hv

theorem Rel.put (h : Rel E a w s G bl) (d : Option Tmp) {u : Value} {v : PV} (hv : RepV G bl (There s.st) u v) : Rel E (a.put d u) w (s.put d v) G bl := by
  refine ⟨h.rel.put d hv, ?_⟩
  rw [St.put_st]
  exact h.ext

theorem cell?_congr {w w' : World} {ad : Addr} (h : w'.heap[ad.block]? = w.heap[ad.block]?) : w'.cell? ad = w.cell? ad := by
  simp only [World.cell?, h]

theorem RelS.agree_lt (h : Agree G w) {b o : Nat} {u : Value} (hg : G b o = some u) : b < w.heap.size := by
  have := h b o u hg
  rcases Nat.lt_or_ge b w.heap.size with q | q
  · exact q
  · simp [World.cell?, Array.getElem?_eq_none q] at this

theorem heap_lt {b : Nat} {o : Obj} (h : w.heap[b]? = some o) : b < w.heap.size := by
  rcases Nat.lt_or_ge b w.heap.size with q | q
  · exact q
  · rw [Array.getElem?_eq_none q] at h; simp at h

theorem withNew_get {arr : Array Value} {e : TypeId} {k : Nat} (h : k < w.heap.size) : (World.withNew w arr e).heap[k]? = w.heap[k]? := by
  simp only [World.withNew, Array.getElem?_push]
  rw [if_neg (by omega)]
theorem withNew_self {arr : Array Value} {e : TypeId} : (World.withNew w arr e).heap[w.heap.size]? = some (.cells arr e (0, 0)) := by
  show (w.heap.push (.cells arr e))[w.heap.size]? = _
  rw [Array.getElem?_push, if_pos rfl]

def upd (bl : Nat → Nat) (id b : Nat) : Nat → Nat := fun j => if j = id then b else bl j

theorem there_set {σ : List Box} {id : Nat} {cs : List PC} (hid : id < σ.length) {j : Nat} (h : There σ j) : There (σ.set id (.live cs)) j := by
  obtain ⟨b, hb, ht⟩ := h
  by_cases hj : id = j
  · subst hj; exact ⟨.live cs, by simp [hid], rfl⟩
  · exact ⟨b, by rw [List.getElem?_set_ne hj]; exact hb, ht⟩

theorem gone_not_there {σ : List Box} {id : Nat} (h : σ[id]? = some .gone) : ¬ There σ id := by
  rintro ⟨b, hb, ht⟩
  rw [h, Option.some.injEq] at hb
  subst hb
  simp [Box.there] at ht

theorem Rel.newBox (h : Rel E a w s G bl) {id : Nat} {cs : List PC} {arr : Array Value} {e : TypeId} (hid : s.st[id]? = some .gone) (hn : E.n0 ≤ id) (ha : All2 (RepC G bl (There s.st)) arr.toList cs)
    {w1 : World} (hw : w1.heap = (World.withNew w arr e).heap) (hos : w1.os = w.os) (ht : w1.tape = w.tape) (ho : w1.output = w.output) :
    Rel E a w1 (s.box id cs) G (upd bl id w.heap.size) := by
  have hlt : id < s.st.length := by
    rcases Nat.lt_or_ge id s.st.length with q | q
    · exact q
    · rw [List.getElem?_eq_none q] at hid; simp at hid
  have hng := gone_not_there hid
  have hbl : ∀ j, There s.st j → upd bl id w.heap.size j = bl j := fun j hj => by
    unfold upd; rw [if_neg]; rintro rfl; exact hng hj
  have hth : ∀ j, There s.st j → There (s.st.set id (.live cs)) j := fun j hj => there_set hlt hj
  have mC : ∀ (u : Value) (p : PC), RepC G bl (There s.st) u p → RepC G (upd bl id w.heap.size) (There (s.st.set id (.live cs))) u p := fun u p => RepC.mono (GLe.refl G) hbl hth
  have hget : ∀ k, k < w.heap.size → w1.heap[k]? = w.heap[k]? := fun k hk => by rw [hw]; exact withNew_get hk
  have hself : w1.heap[w.heap.size]? = some (.cells arr e (0, 0)) := by rw [hw]; exact withNew_self
  have gnone : ∀ o, G w.heap.size o = none := fun o => by
    cases hg : G w.heap.size o with
    | none => rfl
    | some u => exact absurd (RelS.agree_lt h.rel.st.agree hg) (Nat.lt_irrefl _)
  refine ⟨⟨h.rel.slots.mono fun u p => RepV.mono (GLe.refl G) hbl hth, h.rel.defers, ?_⟩, ?_⟩
  · refine ⟨fun b o u hg => ?_, fun j ds hj => ?_, fun j ds hj => ?_, fun j j' ds ds' hj hj' hb => ?_⟩
    · rw [cell?_congr (hget b (RelS.agree_lt h.rel.st.agree hg))]; exact h.rel.st.agree b o u hg
    · simp only [St.box] at hj
      by_cases hji : id = j
      · subst hji
        rw [List.getElem?_set_self hlt, Option.some.injEq, Box.live.injEq] at hj
        subst hj
        refine ⟨arr, e, ?_, ha.mono mC, fun o => ?_⟩
        · simp only [upd, if_pos]; exact hself
        · simp only [upd, if_pos]; exact gnone o
      · rw [List.getElem?_set_ne hji] at hj
        obtain ⟨arr', e', hb, hal, hg⟩ := h.rel.st.live j ds hj
        have hjj : upd bl id w.heap.size j = bl j := by unfold upd; rw [if_neg (Ne.symm hji)]
        refine ⟨arr', e', ?_, hal.mono mC, fun o => by rw [hjj]; exact hg o⟩
        rw [hjj, hget _ (heap_lt hb)]; exact hb
    · simp only [St.box] at hj
      by_cases hji : id = j
      · subst hji
        rw [List.getElem?_set_self hlt, Option.some.injEq] at hj
        cases hj
      · rw [List.getElem?_set_ne hji] at hj
        have hjj : upd bl id w.heap.size j = bl j := by unfold upd; rw [if_neg (Ne.symm hji)]
        rw [hjj]
        exact h.rel.st.frz j ds hj
    · simp only [St.box] at hj hj'
      by_cases h1 : id = j <;> by_cases h2 : id = j'
      · rw [← h1, ← h2]
      · rw [List.getElem?_set_ne h2] at hj'
        obtain ⟨_, _, hb', _⟩ := h.rel.st.live j' ds' hj'
        have := heap_lt hb'
        simp only [upd, if_pos h1.symm, if_neg (Ne.symm h2)] at hb
        omega
      · rw [List.getElem?_set_ne h1] at hj
        obtain ⟨_, _, hb', _⟩ := h.rel.st.live j ds hj
        have := heap_lt hb'
        simp only [upd, if_pos h2.symm, if_neg (Ne.symm h1)] at hb
        omega
      · rw [List.getElem?_set_ne h1] at hj
        rw [List.getElem?_set_ne h2] at hj'
        simp only [upd, if_neg (Ne.symm h1), if_neg (Ne.symm h2)] at hb
        exact h.rel.st.inj j j' ds ds' hj hj' hb
  · have hx := h.ext
    refine ⟨hos.trans hx.os, ht.trans hx.tape, ho.trans hx.output, ?_, fun k hk hm => ?_, hx.gle, hx.gnew, fun j hj => ?_, fun j ds hj1 hj => ?_, by simp only [St.box, List.length_set]; exact hx.len⟩
    · rw [hw]; simp only [World.withNew, Array.size_push]; exact Nat.le_succ_of_le hx.size
    · rw [hget k (Nat.lt_of_lt_of_le hk hx.size)]; exact hx.block k hk hm
    · unfold upd; rw [if_neg (by omega)]; exact hx.same j hj
    · simp only [St.box] at hj
      by_cases hji : id = j
      · subst hji; simp only [upd, if_pos]; exact hx.size
      · rw [List.getElem?_set_ne hji] at hj
        simp only [upd, if_neg (Ne.symm hji)]
        exact hx.fresh j ds hj1 hj

theorem Rel.writeBox (h : Rel E a w s G bl) {id : Nat} {ds cs : List PC} {arr arr' : Array Value} {e : TypeId} (hid : s.st[id]? = some (.live ds)) (hb : w.heap[bl id]? = some (.cells arr e (0, 0)))
    (ha : All2 (RepC G bl (There s.st)) arr'.toList cs) : Rel E a (World.withRow w (bl id) arr' e) (s.box id cs) G bl := by
  have hlt : id < s.st.length := by
    rcases Nat.lt_or_ge id s.st.length with q | q
    · exact q
    · rw [List.getElem?_eq_none q] at hid; simp at hid
  have hth : ∀ j, There s.st j → There (s.st.set id (.live cs)) j := fun j hj => there_set hlt hj
  have mC : ∀ (u : Value) (p : PC), RepC G bl (There s.st) u p → RepC G bl (There (s.st.set id (.live cs))) u p := fun u p => RepC.mono (GLe.refl G) (fun _ _ => rfl) hth
  obtain ⟨_, _, _, _, hgn⟩ := h.rel.st.live id ds hid
  have hget : ∀ k, k ≠ bl id → (World.withRow w (bl id) arr' e).heap[k]? = w.heap[k]? := fun k hk => by
    simp only [World.withRow, Array.getElem?_setIfInBounds]
    rw [if_neg (Ne.symm hk)]
  refine ⟨⟨h.rel.slots.mono fun u p => RepV.mono (GLe.refl G) (fun _ _ => rfl) hth, h.rel.defers, ?_⟩, ?_⟩
  · refine ⟨fun b o u hg => ?_, fun j ds' hj => ?_, fun j ds' hj => ?_, fun j j' ds1 ds2 hj hj' hbb => ?_⟩
    · have hne : b ≠ bl id := by rintro rfl; rw [hgn o] at hg; simp at hg
      rw [cell?_congr (hget b hne)]; exact h.rel.st.agree b o u hg
    · simp only [St.box] at hj
      by_cases hji : id = j
      · subst hji
        rw [List.getElem?_set_self hlt, Option.some.injEq, Box.live.injEq] at hj
        subst hj
        exact ⟨arr', e, withRow_get hb, ha.mono mC, hgn⟩
      · rw [List.getElem?_set_ne hji] at hj
        obtain ⟨arr1, e1, hb1, hal, hg⟩ := h.rel.st.live j ds' hj
        have hne : bl j ≠ bl id := fun hh => hji (h.rel.st.inj id j ds ds' hid hj hh.symm)
        exact ⟨arr1, e1, by rw [hget _ hne]; exact hb1, hal.mono mC, hg⟩
    · simp only [St.box] at hj
      by_cases hji : id = j
      · subst hji
        rw [List.getElem?_set_self hlt, Option.some.injEq] at hj
        cases hj
      · rw [List.getElem?_set_ne hji] at hj
        exact h.rel.st.frz j ds' hj
    · have lift : ∀ {j : Nat} {ds1 : List PC}, (s.st.set id (.live cs))[j]? = some (.live ds1) → ∃ ds2, s.st[j]? = some (.live ds2) := fun {j ds1} hj => by
        by_cases hji : id = j
        · subst hji; exact ⟨ds, hid⟩
        · rw [List.getElem?_set_ne hji] at hj; exact ⟨ds1, hj⟩
      obtain ⟨_, h1⟩ := lift hj
      obtain ⟨_, h2⟩ := lift hj'
      exact h.rel.st.inj j j' _ _ h1 h2 hbb
  · have hx := h.ext
    refine ⟨hx.os, hx.tape, hx.output, ?_, fun k hk hm => ?_, hx.gle, hx.gnew, hx.same, fun j ds' hj1 hj => ?_, by simp only [St.box, List.length_set]; exact hx.len⟩
    · simp only [World.withRow, Array.size_setIfInBounds]; exact hx.size
    · have hne : k ≠ bl id := by
        rintro rfl
        by_cases hi : id < E.n0
        · exact hm id hi (hx.same id hi).symm
        · have := hx.fresh id ds (by omega) hid
          omega
      rw [hget k hne]; exact hx.block k hk hm
    · simp only [St.box] at hj
      by_cases hji : id = j
      · subst hji; exact hx.fresh id ds hj1 hid
      · rw [List.getElem?_set_ne hji] at hj; exact hx.fresh j ds' hj1 hj

theorem Rel.grow (h : Rel E a w s G bl) {w1 : World} {G1 : GMem} (hb : Below w.heap.size w w1) (hg : GLe G G1) (hnew : ∀ b o u, G1 b o = some u → G b o = some u ∨ w.heap.size ≤ b) (ha : Agree G1 w1) : Rel E a w1 s G1 bl := by
  have mC : ∀ (u : Value) (p : PC), RepC G bl (There s.st) u p → RepC G1 bl (There s.st) u p := fun u p => RepC.mono hg (fun _ _ => rfl) (fun _ h => h)
  refine ⟨⟨h.rel.slots.mono fun u p => RepV.mono hg (fun _ _ => rfl) (fun _ h => h), h.rel.defers, ?_⟩, ?_⟩
  · refine ⟨ha, fun j ds hj => ?_, fun j ds hj => ?_, h.rel.st.inj⟩
    · obtain ⟨arr, e, hbj, hal, hgn⟩ := h.rel.st.live j ds hj
      refine ⟨arr, e, by rw [hb.block _ (heap_lt hbj)]; exact hbj, hal.mono mC, fun o => ?_⟩
      cases hh : G1 (bl j) o with
      | none => rfl
      | some u =>
        rcases hnew _ _ _ hh with q | q
        · rw [hgn o] at q; simp at q
        · have := heap_lt hbj; omega
    · obtain ⟨us, h1, h2⟩ := h.rel.st.frz j ds hj
      exact ⟨us, fun i hi => hg _ _ _ (h1 i hi), fun i hi => IRep.mono hg (h2 i hi)⟩
  · have hx := h.ext
    refine ⟨hb.os.trans hx.os, hb.tape.trans hx.tape, hb.output.trans hx.output, Nat.le_trans hx.size hb.size, fun k hk hm => ?_, hx.gle.trans hg, fun b o u hh => ?_, hx.same, hx.fresh, hx.len⟩
    · rw [hb.block k (Nat.lt_of_lt_of_le hk hx.size)]; exact hx.block k hk hm
    · rcases hnew _ _ _ hh with q | q
      · exact hx.gnew _ _ _ q
      · exact .inr (Nat.le_trans hx.size q)

theorem Rel.made (h : Rel E a w s G bl) {n : Nat} {cs : List PC} {u : Value} {w1 : World} (hm : Made G w n cs u w1) : ∃ G1, GLe G G1 ∧ Rel E a w1 s G1 bl ∧ RepC G1 bl (There s.st) u (.sl n cs) := by
  rcases hm with ⟨rfl, hr⟩ | ⟨arr, e, k, cap, vs, rest, rfl, rfl, hcap, harr, hvs⟩
  · exact ⟨G, GLe.refl G, h, hr⟩
  · let G1 : GMem := fun b o => if b = w.heap.size then vs[o]? else G b o
    have gnone : ∀ o, G w.heap.size o = none := fun o => by
      cases hg : G w.heap.size o with
      | none => rfl
      | some u => exact absurd (RelS.agree_lt h.rel.st.agree hg) (Nat.lt_irrefl _)
    have hle : GLe G G1 := fun b o u hg => by
      show (if b = w.heap.size then vs[o]? else G b o) = some u
      rw [if_neg]
      · exact hg
      · rintro rfl; rw [gnone o] at hg; simp at hg
    have hbelow : Below w.heap.size w { World.withNew w arr e with drawn := w.drawn + k } :=
      ⟨rfl, rfl, rfl, by simp [World.withNew], fun j hj => withNew_get hj⟩
    refine ⟨G1, hle, h.grow hbelow hle (fun b o u hg => ?_) (fun b o u hg => ?_), ?_⟩
    · by_cases hb : b = w.heap.size
      · exact .inr (by omega)
      · have : G b o = some u := by
          have hg' : (if b = w.heap.size then vs[o]? else G b o) = some u := hg
          rw [if_neg hb] at hg'; exact hg'
        exact .inl this
    · have hg' : (if b = w.heap.size then vs[o]? else G b o) = some u := hg
      by_cases hb : b = w.heap.size
      · subst hb
        rw [if_pos rfl] at hg'
        have hs : ({ World.withNew w arr e with drawn := w.drawn + k } : World).heap[w.heap.size]? = some (.cells arr e (0, 0)) := withNew_self
        simp only [World.cell?, hs]
        have ho : o < vs.length := by
          rcases Nat.lt_or_ge o vs.length with q | q
          · exact q
          · rw [List.getElem?_eq_none q] at hg'; simp at hg'
        have : arr[o]? = some u := by
          rw [← Array.getElem?_toList, harr, List.getElem?_append_left ho]; exact hg'
        simpa using this
      · rw [if_neg hb] at hg'
        have hlt : b < w.heap.size := RelS.agree_lt h.rel.st.agree hg'
        have hs : ({ World.withNew w arr e with drawn := w.drawn + k } : World).heap[b]? = w.heap[b]? := withNew_get hlt
        exact (cell?_congr (w := w) (ad := ⟨b, o, none⟩) hs).trans (h.rel.st.agree b o u hg')
    · refine IRep.sl w.heap.size 0 n cap cs (fun i => (vs[i]?).getD .nilFunc) hcap (fun i hi => ?_) (fun i hi => ?_)
      · show (if w.heap.size = w.heap.size then vs[0 + i]? else G w.heap.size (0 + i)) = _
        rw [if_pos rfl, Nat.zero_add, List.getElem?_eq_getElem (by rw [hvs.length]; exact hi)]
        rfl
      · obtain ⟨v, hv, r⟩ := hvs.get i cs[i] (List.getElem?_eq_getElem hi)
        simp only [hv, Option.getD_some]
        exact IRep.mono hle r

end
end Go.PL

namespace Go.PL
open Go.RowKit

section
variable {P : Program} {E : Env} {a : Act} {w : World} {s : St} {G : GMem} {bl : Nat → Nat}

theorem wantedP_sound (h : RelA G bl a w s) {ops : Array Oper} {o : Oper} {b : Bool} (hb : wantedP ops.toList s o = some b) : Region.wanted o (yielded ops a.tmps) = b := by
  unfold wantedP at hb
  unfold Region.wanted
  split at hb
  · rename_i hg
    rw [hg]
    simpa using hb
  · rename_i j want hg
    rw [hg]
    simp only
    split at hb <;> try (cases hb; done)
    rename_i d hd
    have hd' : (ops[j]?).bind (·.dst) = some d := by rw [← Array.getElem?_toList]; exact hd
    unfold yielded
    rw [hd', Option.bind_some]
    split at hb <;> try (cases hb; done)
    · rename_i c hc
      obtain ⟨u, hu, r⟩ := h.slots.get d _ hc
      have hu' : a.tmps[d]? = some u := by rw [← Array.getElem?_toList]; exact hu
      rw [hu']
      obtain rfl := IRep.bool_inv r
      simp only [Option.some.injEq] at hb
      subst hb
      simp
    · rename_i hc
      obtain ⟨u, hu, r⟩ := h.slots.get d _ hc
      have hu' : a.tmps[d]? = some u := by rw [← Array.getElem?_toList]; exact hu
      rw [hu']
      obtain ⟨arr, rfl, _⟩ := r
      simp only [Option.some.injEq] at hb
      subst hb
      simp

def Post (E : Env) (K : St → Prop) (a : Act) (w : World) : Prop := ∃ s G bl, K s ∧ Rel E a w s G bl

theorem box_there {id : Nat} {cs : List PC} {b : Box} (h : s.st[id]? = some b) : There (s.box id cs).st id := by
  refine ⟨.live cs, ?_, rfl⟩
  simp only [St.box]
  exact List.getElem?_set_self (by
    rcases Nat.lt_or_ge id s.st.length with q | q
    · exact q
    · rw [List.getElem?_eq_none q] at h; simp at h)

theorem undef_rep {L : Nat → Prop} : RepV G bl L undef (.t []) := ⟨#[], rfl, .nil⟩

theorem Rel.frz1 (h : Rel E a w s G bl) (h0 : E.n0 = 0) (id : Nat) : ∃ G1, GLe G G1 ∧ Rel E a w (PL.frz1 s id) G1 bl := by
  unfold PL.frz1
  split
  case h_2 => exact ⟨G, GLe.refl G, h⟩
  case h_1 cs hid =>
  split
  case isFalse => exact ⟨G, GLe.refl G, h⟩
  case isTrue him =>
  have hlt : id < s.st.length := by
    rcases Nat.lt_or_ge id s.st.length with q | q
    · exact q
    · rw [List.getElem?_eq_none q] at hid; simp at hid
  obtain ⟨arr, e, hb, ha, hgn⟩ := h.rel.st.live id cs hid
  have hai := ha.irep_of_im him
  let G1 : GMem := fun b o => if b = bl id then arr[o]? else G b o
  have hle : GLe G G1 := fun b o u hg => by
    show (if b = bl id then arr[o]? else G b o) = some u
    rw [if_neg]
    · exact hg
    · rintro rfl; rw [hgn o] at hg; simp at hg
  have hth : ∀ j, There s.st j → There (s.st.set id (.frz cs)) j := by
    rintro j ⟨b, hbj, ht⟩
    by_cases hj : id = j
    · subst hj; exact ⟨.frz cs, by simp [hlt], rfl⟩
    · exact ⟨b, by rw [List.getElem?_set_ne hj]; exact hbj, ht⟩
  have mC : ∀ (u : Value) (p : PC), RepC G bl (There s.st) u p → RepC G1 bl (There (s.st.set id (.frz cs))) u p := fun u p => RepC.mono hle (fun _ _ => rfl) hth
  have liveOf : ∀ {j : Nat} {ds : List PC}, (s.st.set id (.frz cs))[j]? = some (.live ds) → id ≠ j ∧ s.st[j]? = some (.live ds) := fun {j ds} hj => by
    by_cases hji : id = j
    · subst hji; rw [List.getElem?_set_self hlt, Option.some.injEq] at hj; cases hj
    · exact ⟨hji, by rw [List.getElem?_set_ne hji] at hj; exact hj⟩
  refine ⟨G1, hle, ⟨h.rel.slots.mono fun u p => RepV.mono hle (fun _ _ => rfl) hth, h.rel.defers, ?_⟩, ?_⟩
  · refine ⟨fun b o u hg => ?_, fun j ds hj => ?_, fun j ds hj => ?_, fun j j' ds ds' hj hj' hbb => ?_⟩
    · have hg' : (if b = bl id then arr[o]? else G b o) = some u := hg
      by_cases hbb : b = bl id
      · subst hbb
        rw [if_pos rfl] at hg'
        simp only [World.cell?, hb]
        simpa using hg'
      · rw [if_neg hbb] at hg'; exact h.rel.st.agree b o u hg'
    · obtain ⟨hji, hj'⟩ := liveOf hj
      obtain ⟨arr', e', h1, h2, h3⟩ := h.rel.st.live j ds hj'
      refine ⟨arr', e', h1, h2.mono mC, fun o => ?_⟩
      show (if bl j = bl id then arr[o]? else G (bl j) o) = none
      rw [if_neg fun hh => hji (h.rel.st.inj id j cs ds hid hj' hh.symm)]
      exact h3 o
    · by_cases hji : id = j
      · subst hji
        rw [List.getElem?_set_self hlt, Option.some.injEq, Box.frz.injEq] at hj
        subst hj
        refine ⟨fun i => (arr[i]?).getD .nilFunc, fun i hi => ?_, fun i hi => ?_⟩
        · show (if bl id = bl id then arr[i]? else G (bl id) i) = _
          rw [if_pos rfl]
          have : i < arr.size := by have := hai.length; simp at this; omega
          simp [this]
        · obtain ⟨v, hv, r⟩ := hai.get i cs[i] (List.getElem?_eq_getElem hi)
          have hv' : arr[i]? = some v := by rw [← Array.getElem?_toList]; exact hv
          simp only [hv', Option.getD_some]
          exact IRep.mono hle r
      · rw [List.getElem?_set_ne hji] at hj
        obtain ⟨us, h1, h2⟩ := h.rel.st.frz j ds hj
        exact ⟨us, fun i hi => hle _ _ _ (h1 i hi), fun i hi => IRep.mono hle (h2 i hi)⟩
    · exact h.rel.st.inj j j' ds ds' (liveOf hj).2 (liveOf hj').2 hbb
  · have hx := h.ext
    refine ⟨hx.os, hx.tape, hx.output, hx.size, hx.block, hx.gle.trans hle, fun b o u hg => ?_, hx.same, fun j ds h1 hj => hx.fresh j ds h1 (liveOf hj).2, by simp only [List.length_set]; exact hx.len⟩
    have hg' : (if b = bl id then arr[o]? else G b o) = some u := hg
    by_cases hbb : b = bl id
    · exact .inr (by rw [hbb]; exact hx.fresh id cs (by omega) hid)
    · rw [if_neg hbb] at hg'; exact hx.gnew _ _ _ hg'

theorem Rel.frzIds (h0 : E.n0 = 0) : ∀ (l : List Nat) {s : St} {G : GMem}, Rel E a w s G bl → ∃ G1, GLe G G1 ∧ Rel E a w (l.foldl PL.frz1 s) G1 bl
  | [], s, G, h => ⟨G, GLe.refl G, h⟩
  | i :: l, s, G, h => by
    obtain ⟨G1, h1, h2⟩ := h.frz1 h0 i
    obtain ⟨G2, h3, h4⟩ := Rel.frzIds h0 l h2
    exact ⟨G2, h1.trans h3, h4⟩
theorem Rel.frzL (h0 : E.n0 = 0) : ∀ (l : List PE) {s : St} {G : GMem}, Rel E a w s G bl → ∃ G1, GLe G G1 ∧ Rel E a w (PL.frzL s l) G1 bl
  | [], s, G, h => ⟨G, GLe.refl G, h⟩
  | p :: l, s, G, h => by
    obtain ⟨G1, h1, h2⟩ := Rel.frzIds h0 (PL.frzIds p.cells) h
    obtain ⟨G2, h3, h4⟩ := Rel.frzL h0 l h2
    exact ⟨G2, h1.trans h3, h4⟩

theorem frz1_there {s : St} {id j : Nat} (h : There s.st j) : There (PL.frz1 s id).st j := by
  unfold PL.frz1
  split
  · split
    · rename_i cs hid _
      obtain ⟨b, hb, ht⟩ := h
      have hlt : id < s.st.length := by
        rcases Nat.lt_or_ge id s.st.length with q | q
        · exact q
        · rw [List.getElem?_eq_none q] at hid; simp at hid
      by_cases hj : id = j
      · subst hj; exact ⟨.frz cs, by simp [hlt], rfl⟩
      · exact ⟨b, by simp only; rw [List.getElem?_set_ne hj]; exact hb, ht⟩
    · exact h
  · exact h
theorem frzIds_there : ∀ (l : List Nat) {s : St} {j : Nat}, There s.st j → There (l.foldl PL.frz1 s).st j
  | [], _, _, h => h
  | _ :: l, _, _, h => frzIds_there l (frz1_there h)
theorem frzL_there : ∀ (l : List PE) {s : St} {j : Nat}, There s.st j → There (PL.frzL s l).st j
  | [], _, _, h => h
  | p :: l, _, _, h => frzL_there l (frzIds_there (PL.frzIds p.cells) h)

theorem RelS.immC {σ : List Box} (h : RelS G bl w σ) {v : Value} {p : PC} (hv : RepC G bl (There σ) v p) : RepC G bl (There σ) v (PL.immC σ p) := by
  cases p with
  | msl id off len cap sz =>
    unfold PL.immC
    simp only
    split
    · rename_i cs hid
      split
      · rename_i hle
        obtain ⟨hL, rfl, hlc⟩ := hv
        obtain ⟨us, h1, h2⟩ := h.frz id cs hid
        refine IRep.sl (bl id) off len cap _ (fun i => us (off + i)) hlc (fun i hi => h1 _ (by simp at hi; omega)) (fun i hi => ?_)
        simp only [List.getElem_take, List.getElem_drop]
        exact h2 _ _
      · exact hv
    · exact hv
  | _ => exact hv
theorem RelS.immCs {σ : List Box} (h : RelS G bl w σ) {l : List Value} {cs : List PC} (hv : All2 (RepC G bl (There σ)) l cs) : All2 (RepC G bl (There σ)) l (cs.map (PL.immC σ)) := by
  induction hv with
  | nil => exact .nil
  | cons hh _ ih => exact .cons (h.immC hh) ih
theorem RelS.immE {σ : List Box} (h : RelS G bl w σ) {v : Value} {p : PE} (hv : RepE G bl (There σ) v p) : RepE G bl (There σ) v (PL.immE σ p) := by
  cases p with
  | c p => exact h.immC hv
  | a cs => obtain ⟨arr, rfl, h2⟩ := hv; exact ⟨arr, rfl, h.immCs h2⟩
theorem RelS.immL {σ : List Box} (h : RelS G bl w σ) {l : List Value} {ps : List PE} (hv : All2 (RepE G bl (There σ)) l ps) : All2 (RepE G bl (There σ)) l (ps.map (PL.immE σ)) := by
  induction hv with
  | nil => exact .nil
  | cons hh _ ih => exact .cons (h.immE hh) ih

theorem All2.of_im {L L' : Nat → Prop} {bl' : Nat → Nat} {l : List Value} {ps : List PE} (h : All2 (RepE G bl L) l ps) (him : ps.all PE.im = true) : All2 (RepE G bl' L') l ps := by
  induction h with
  | nil => exact .nil
  | cons h _ ih =>
    simp only [List.all_cons, Bool.and_eq_true] at him
    exact .cons (h.of_im him.1) (ih him.2)

theorem Rel.retM (h : Rel E a w s G bl) {σ' : List Box} {G' : GMem} {bl' : Nat → Nat} {w' : World} (hs : RelS G' bl' w' σ') (hth : ∀ id, There s.st id → There σ' id) (hlen : s.st.length ≤ σ'.length)
    (hbl : ∀ id, id < s.st.length → bl' id = bl id) (hnew : ∀ id cs, s.st.length ≤ id → σ'[id]? = some (.live cs) → w.heap.size ≤ bl' id) (hold : ∀ id cs, σ'[id]? = some (.live cs) → id < s.st.length → ∃ cs', s.st[id]? = some (.live cs'))
    (hle : GLe G G') (hg : ∀ b o u, G' b o = some u → G b o = some u ∨ w.heap.size ≤ b) (ho : w'.os = w.os) (ht : w'.tape = w.tape) (hu : w'.output = w.output) (hsz : w.heap.size ≤ w'.heap.size)
    (hfr : ∀ k, k < w.heap.size → (∀ id cs, s.st[id]? = some (.live cs) → bl id ≠ k) → w'.heap[k]? = w.heap[k]?) : Rel E a w' { s with st := σ' } G' bl' := by
  have hlt : ∀ id, There s.st id → id < s.st.length := by
    rintro id ⟨b, hb, _⟩
    rcases Nat.lt_or_ge id s.st.length with q | q
    · exact q
    · rw [List.getElem?_eq_none q] at hb; simp at hb
  refine ⟨⟨h.rel.slots.mono fun u p => RepV.mono hle (fun id hid => hbl id (hlt id hid)) hth, h.rel.defers, hs⟩, ?_⟩
  have hx := h.ext
  refine ⟨ho.trans hx.os, ht.trans hx.tape, hu.trans hx.output, Nat.le_trans hx.size hsz, fun k hk hm => ?_, hx.gle.trans hle, fun b o u hh => ?_, fun id hid => ?_, fun id cs h1 h2 => ?_, Nat.le_trans hx.len hlen⟩
  · rw [hfr k (Nat.lt_of_lt_of_le hk hx.size) fun id cs hid => ?_]
    · exact hx.block k hk hm
    · rintro rfl
      by_cases hi : id < E.n0
      · exact hm id hi (hx.same id hi).symm
      · have := hx.fresh id cs (by omega) hid
        omega
  · rcases hg _ _ _ hh with q | q
    · exact hx.gnew _ _ _ q
    · exact .inr (Nat.le_trans hx.size q)
  · rw [hbl id (Nat.lt_of_lt_of_le hid hx.len)]; exact hx.same id hid
  · rcases Nat.lt_or_ge id s.st.length with q | q
    · obtain ⟨cs', hc⟩ := hold id cs h2 q
      rw [hbl id q]
      exact hx.fresh id cs' h1 hc
    · exact Nat.le_trans hx.size (hnew id cs q h2)

theorem call_sound (rel : Rel E a w s G bl) {md : Md} (hz : md.fz = true → E.n0 = 0) {o : Oper} {f : FuncId} {l : List PE} (hv : evA P md.mb s o.op = .call f l) {wf : Bool} {K : St → Prop} (hK : callS P md wf o.dst K s f l) (Q : Exit → Act → World → Prop) :
    o.upon P a (Post E K) Q ((execOp a.eval o).run P w) := by
  have useM : ∀ {R : PV → List Box → Prop}, RetM P f l s.st R → (∀ r σ', R r σ' → K ({ s with st := σ' }.put o.dst r)) → o.upon P a (Post E K) Q ((execOp a.eval o).run P w) := by
    rintro R ⟨hen, hret⟩ hk
    obtain ⟨vs, h1, h2⟩ := evA_call rel.rel hv hen
    rw [h1, Oper.upon_enter]
    refine (hret G bl w vs rel.rel.st h2).mono ?_
    rintro e w' ⟨v, r, σ', G', bl', rfl, hR, hv', hs, hth, hlen, hbl, hnew, hold, hle, hg, ho, ht, hu, hsz, hfr⟩
    exact ⟨_, G', bl', hk r σ' hR, (rel.retM hs hth hlen hbl hnew hold hle hg ho ht hu hsz hfr).put o.dst hv'⟩
  unfold callS at hK
  split at hK
  · obtain ⟨id, off, rest, cs, cs', r, _, hlive, hw, hk⟩ := hK
    exact useM (hw s.st hlive) (by rintro r' σ' ⟨rfl, rfl⟩; exact hk)
  · split at hK
    · rename_i him
      replace him := him.1
      obtain ⟨r, ⟨hen, hret⟩, hk⟩ := hK
      obtain ⟨vs, h1, h2⟩ := evA_call rel.rel hv hen
      rw [h1, Oper.upon_enter]
      refine (hret G w vs rel.rel.st.agree (h2.of_im him)).mono ?_
      rintro e w' ⟨v, G', rfl, hv', hag, hle, hnew, hbel⟩
      exact ⟨_, G', bl, hk, (rel.grow hbel hle hnew hag).put o.dst hv'.of_false⟩
    · obtain ⟨_, ⟨hfz, him, r, ⟨hen, hret⟩, hk⟩ | ⟨_, R, hR, hk⟩ | ⟨_, R, hR, _, hk⟩⟩ := hK
      · obtain ⟨vs, h1, h2⟩ := evA_call rel.rel hv hen
        rw [h1, Oper.upon_enter]
        obtain ⟨G1, hg1, rel1⟩ := Rel.frzL (hz hfz) l rel
        have h3 : All2 (RepE G1 bl (There (PL.frzL s l).st)) vs.toList l := h2.mono fun u p => RepE.mono hg1 (fun _ _ => rfl) (fun j => frzL_there l)
        have h4 := rel1.rel.st.immL h3
        refine (hret G1 w vs rel1.rel.st.agree (h4.of_im him)).mono ?_
        rintro e w' ⟨v, G', rfl, hv', hag, hle, hnew, hbel⟩
        exact ⟨_, G', bl, hk, (rel1.grow hbel hle hnew hag).put o.dst hv'.of_false⟩
      · exact useM hR hk
      · exact useM hR hk

theorem oper_sound (rel : Rel E a w s G bl) {md : Md} (hz : md.fz = true → E.n0 = 0) {o : Oper} {nid : Nat} (hn : E.n0 ≤ nid) {K : St → Prop} (hK : actS P md (wfOp md o.op) nid o.dst K s (evA P md.mb s o.op))
    (Q : Exit → Act → World → Prop) : o.wp P a w (Post E K) Q := by
  unfold Oper.wp
  cases hv : evA P md.mb s o.op with
  | val v =>
    rw [hv] at hK
    obtain ⟨u, h1, h2⟩ := evA_val rel.rel hv
    rw [h1, Oper.upon_value]
    exact ⟨_, G, bl, hK, rel.put o.dst h2⟩
  | mk n cs =>
    rw [hv] at hK
    obtain ⟨u, w', h1, h2⟩ := evA_mk (P := P) rel.rel hv
    rw [h1, Oper.upon_value]
    obtain ⟨G1, _, r, hu⟩ := rel.made h2
    exact ⟨_, G1, bl, hK, r.put o.dst (v := .e (.c (.sl n cs))) hu⟩
  | new v cs =>
    rw [hv] at hK
    obtain ⟨hgone, hk⟩ := hK
    obtain ⟨u, arr, e, h1, h2, h3⟩ := evA_new rel.rel hv
    rw [h1, Oper.upon_value]
    have r := rel.newBox hgone hn h2 (w1 := World.withNew w arr e) rfl rfl rfl rfl
    exact ⟨_, G, _, hk, r.put o.dst (h3 G _ _ nid (by simp [upd]) (box_there hgone))⟩
  | sto id off cs =>
    rw [hv] at hK
    obtain ⟨ds, hlive, hr, hne, hk⟩ := hK
    obtain ⟨arr, e, arr', hb, h1, h2⟩ := evA_sto (P := P) rel.rel hv hlive hr hne
    rw [h1, Oper.upon_skip]
    exact ⟨_, G, bl, hk, (rel.writeBox hlive hb h2).put o.dst undef_rep⟩
  | call f l =>
    rw [hv] at hK
    exact call_sound rel hz hv hK Q
  | app base sz z n cs =>
    rw [hv] at hK
    obtain ⟨_, hK⟩ := hK
    have hA := evA_app (P := P) rel.rel hv
    cases base with
    | none =>
      rcases hA with ⟨rfl, h1⟩ | ⟨h0, c, arr, e, hc, h1, h2⟩
      · rw [h1, Oper.upon_value]
        exact ⟨_, G, bl, hK.1 rfl, rel.put o.dst (v := .e (.c .nils)) IRep.nils⟩
      · rw [h1, Oper.upon_value]
        obtain ⟨hgone, hk⟩ := hK.2 h0
        have r := rel.newBox hgone hn h2 (w1 := { World.withNew w arr e with drawn := w.drawn + 1 }) rfl rfl rfl rfl
        refine ⟨_, G, _, hk c hc, r.put o.dst (v := .e (.c (.msl nid 0 n c sz))) ⟨box_there hgone, by simp [upd], hc⟩⟩
    | some x =>
      obtain ⟨id, off, len, cap⟩ := x
      obtain ⟨hL, hlc, hA⟩ := hA
      obtain ⟨ds, hlive, hin, hout⟩ := hK
      obtain ⟨hA1, hA2⟩ := hA ds hlive
      by_cases hfit : len + n ≤ cap
      · obtain ⟨g1, hk⟩ := hin hfit
        obtain ⟨arr, e, arr', hb, h1, h2⟩ := hA1 hfit g1
        rw [h1, Oper.upon_value]
        refine ⟨_, G, bl, hk, (rel.writeBox hlive hb h2).put o.dst (v := .e (.c (.msl id off (len + n) cap sz))) ⟨box_there hlive, rfl, hfit⟩⟩
      · obtain ⟨g1, hgone, hk⟩ := hout (by omega)
        obtain ⟨c, arr, e, hc, h1, h2⟩ := hA2 (by omega) g1
        rw [h1, Oper.upon_value]
        have r := rel.newBox hgone hn h2 (w1 := { World.withNew w arr e with drawn := w.drawn + 1 }) rfl rfl rfl rfl
        refine ⟨_, G, _, hk c hc, r.put o.dst (v := .e (.c (.msl nid 0 (len + n) c sz))) ⟨box_there hgone, by simp [upd], hc⟩⟩
  | bad => rw [hv] at hK; exact hK.elim

theorem step1_sound (rel : Rel E a w s G bl) {md : Md} (hz : md.fz = true → E.n0 = 0) {ops : Array Oper} {nid i : Nat} {o : Oper} (ho : ops[i]? = some o) (hn : E.n0 ≤ nid) {K : St → Prop} (hK : step1 P md ops.toList nid o K s)
    (Q : Exit → Act → World → Prop) : wpOp P ops Q i (Post E K) a w := by
  unfold wpOp
  simp only [ho]
  unfold step1 at hK
  cases hw : wantedP ops.toList s o with
  | none => rw [hw] at hK; exact hK.elim
  | some b =>
    rw [hw] at hK
    rw [wantedP_sound rel.rel hw]
    cases b with
    | true => simp only [if_true]; exact .inl (oper_sound (md := mdOf md o.op) rel (fun q => hz (mdOf_fz _ _ q)) hn (by rw [mdOf_wfOp, mdOf_mb]; exact hK) Q)
    | false =>
      simp only [Bool.false_eq_true, if_false]
      exact ⟨_, G, bl, hK, rel.put o.dst undef_rep⟩

def runL (P : Program) (md : Md) (ops : List Oper) (nb : Nat) : List Nat → (St → Prop) → St → Prop
  | [], K, s => K s
  | i :: l, K, s => match ops[i]? with
    | some o => step1 P md ops (nid ops nb i) o (runL P md ops nb l K) s
    | none => False

theorem runL_text {md : Md} (hz : md.fz = true → E.n0 = 0) {ops : Array Oper} {nb : Nat} (hn : E.n0 ≤ nb) {K : St → Prop} {Q : Exit → Act → World → Prop} (hQ : ∀ a w, Post E K a w → Q .normal a w) : ∀ (l : List Nat) {a : Act} {w : World} {s : St} {G : GMem} {bl : Nat → Nat},
    Rel E a w s G bl → runL P md ops.toList nb l K s → wpOps P ops Q l a w
  | [], a, w, s, G, bl, rel, h => hQ a w ⟨s, G, bl, h, rel⟩
  | i :: l, a, w, s, G, bl, rel, h => by
    rw [wpOps_cons]
    unfold runL at h
    split at h
    · rename_i o ho
      have ho' : ops[i]? = some o := by rw [← Array.getElem?_toList]; exact ho
      refine wpOp_mono ?_ (step1_sound rel hz ho' (Nat.le_trans hn (Nat.le_add_right _ _)) h Q)
      rintro a' w' ⟨s', G', bl', hk, rel'⟩
      exact runL_text hz hn hQ l rel' hk
    · exact h.elim

def St.pad (s : St) (k : Nat) : St := { s with st := s.st ++ List.replicate k .gone }

theorem pad_get {σ : List Box} {k id : Nat} {b : Box} (hb : b ≠ .gone) : (σ ++ List.replicate k .gone)[id]? = some b ↔ σ[id]? = some b := by
  by_cases h : id < σ.length
  · rw [List.getElem?_append_left h]
  · have h' : σ.length ≤ id := by omega
    rw [List.getElem?_append_right h', List.getElem?_eq_none h', List.getElem?_replicate]
    constructor
    · intro q; split at q
      · simp at q; exact absurd q.symm hb
      · simp at q
    · intro q; simp at q

theorem pad_there {σ : List Box} {k id : Nat} : There (σ ++ List.replicate k .gone) id ↔ There σ id := by
  constructor
  · rintro ⟨b, hb, ht⟩
    exact ⟨b, (pad_get (by rintro rfl; simp [Box.there] at ht)).1 hb, ht⟩
  · rintro ⟨b, hb, ht⟩
    exact ⟨b, (pad_get (by rintro rfl; simp [Box.there] at ht)).2 hb, ht⟩

theorem Rel.pad (h : Rel E a w s G bl) (k : Nat) : Rel E a w (s.pad k) G bl := by
  have ht : ∀ id, There s.st id → There (s.st ++ List.replicate k .gone) id := fun id => pad_there.2
  have hx := h.ext
  refine ⟨⟨h.rel.slots.mono fun u p => RepV.mono (GLe.refl G) (fun _ _ => rfl) ht, h.rel.defers, ?_⟩, ?_⟩
  · refine ⟨h.rel.st.agree, fun id cs hid => ?_, fun id cs hid => ?_, fun id id' cs cs' hid hid' => ?_⟩
    · obtain ⟨arr, e, h1, h2, h3⟩ := h.rel.st.live id cs ((pad_get (by simp)).1 hid)
      exact ⟨arr, e, h1, h2.mono fun u p => RepC.mono (GLe.refl G) (fun _ _ => rfl) ht, h3⟩
    · exact h.rel.st.frz id cs ((pad_get (by simp)).1 hid)
    · exact h.rel.st.inj id id' cs cs' ((pad_get (by simp)).1 hid) ((pad_get (by simp)).1 hid')
  · exact ⟨hx.os, hx.tape, hx.output, hx.size, hx.block, hx.gle, hx.gnew, hx.same, fun id cs h1 h2 => hx.fresh id cs h1 ((pad_get (by simp)).1 h2), by
      simp only [St.pad, List.length_append]; exact Nat.le_trans hx.len (Nat.le_add_right _ _)⟩

end
end Go.PL

namespace Go.PL
open Go.RowKit

inductive Cl where
  | n | r | nw | st
  deriving DecidableEq

def cl (md : Md) : Op → Cl
  | .load _ _ => .r
  | .call { callee := .builtin .append, .. } => .r
  | .alloc _ | .box _ _ | .makeSlice _ _ _ | .buildSlice _ _ _ => .nw
  | .store _ _ _ => .st
  | op => if wfOp md op then .st else .n

section congr
variable {P : Program} {mb : Bool} {md : Md} {s s' : St}

theorem pv_congr {x : Operand} (h : ∀ t, x = .tmp t → s'.slots[t]? = s.slots[t]?) : s'.pv x = s.pv x := by
  cases x with
  | tmp t => exact h t rfl
  | _ => rfl
theorem pe_congr {x : Operand} (h : ∀ t, x = .tmp t → s'.slots[t]? = s.slots[t]?) : s'.pe x = s.pe x := by
  cases x with
  | tmp t => simp only [St.pe, h t rfl]
  | _ => rfl
theorem tu_congr {x : Operand} (h : ∀ t, x = .tmp t → s'.slots[t]? = s.slots[t]?) : s'.tu x = s.tu x := by
  cases x with
  | tmp t => simp only [St.tu, h t rfl]
  | _ => rfl
theorem peO_congr {x : Option Operand} (h : ∀ t, x = some (.tmp t) → s'.slots[t]? = s.slots[t]?) : s'.peO x = s.peO x := by
  cases x with
  | none => rfl
  | some x => simp only [St.peO]; rw [pe_congr fun t ht => h t (by rw [ht])]
theorem peAll_congr : ∀ {l : List Operand}, (∀ t, .tmp t ∈ l → s'.slots[t]? = s.slots[t]?) → s'.peAll l = s.peAll l
  | [], _ => rfl
  | x :: l, h => by
    simp only [St.peAll]
    rw [pe_congr fun t ht => h t (by simp [ht]), peAll_congr fun t ht => h t (by simp [ht])]
theorem places_congr {fs : List (Nat × Nat × Bool)} : ∀ {l : List (Nat × Operand)}, (∀ t, .tmp t ∈ l.map (·.2) → s'.slots[t]? = s.slots[t]?) → places fs s' l = places fs s l
  | [], _ => rfl
  | (j, x) :: l, h => by
    simp only [places]
    rw [pe_congr fun t ht => h t (by simp [ht]), places_congr fun t ht => h t (by simp only [List.map_cons, List.mem_cons]; exact .inr ht)]
theorem placesN_congr {n : Nat} : ∀ {l : List (Nat × Operand)}, (∀ t, .tmp t ∈ l.map (·.2) → s'.slots[t]? = s.slots[t]?) → placesN n s' l = placesN n s l
  | [], _ => rfl
  | (j, x) :: l, h => by
    simp only [placesN]
    rw [pe_congr fun t ht => h t (by simp [ht]), placesN_congr fun t ht => h t (by simp only [List.map_cons, List.mem_cons]; exact .inr ht)]

theorem evB_congr {b : Builtin} {l : List Operand} {ts : Array TypeId} (h : ∀ t, .tmp t ∈ l → s'.slots[t]? = s.slots[t]?) : evB P s' b l ts = evB P s b l ts := by
  cases l with
  | nil => cases b <;> rfl
  | cons x l =>
    have hx : s'.pe x = s.pe x := pe_congr fun t ht => h t (by simp [ht])
    cases l with
    | nil => cases b <;> simp only [evB, hx]
    | cons y l =>
      have hy : s'.pe y = s.pe y := pe_congr fun t ht => h t (by simp [ht])
      cases l with
      | nil => cases b <;> simp only [evB, hx, hy]
      | cons z l => cases b <;> rfl

theorem evA_congr (md : Md) {op : Op} (hs : ∀ t, .tmp t ∈ op.operands → s'.slots[t]? = s.slots[t]?) (hr : cl md op ≠ .r) : evA P mb s' op = evA P mb s op := by
  cases op <;> simp only [evA] <;> simp only [Op.operands] at hs
  case move x => rw [pv_congr fun t ht => hs t (by simp [ht])]
  case assign x => rw [pv_congr fun t ht => hs t (by simp [ht])]
  case pick c x y =>
    rw [pe_congr (x := c) fun t ht => hs t (by simp [ht]), pv_congr (x := x) fun t ht => hs t (by simp [ht]), pv_congr (x := y) fun t ht => hs t (by simp [ht])]
  case box t x => rw [pe_congr fun t ht => hs t (by simp [ht])]
  case build t ps => simp only [show ∀ fs, places fs s' ps.toList = places fs s ps.toList from fun fs => places_congr fun t ht => hs t (by simpa using ht)]
  case buildSlice t n ps => simp only [show ∀ k, placesN k s' ps.toList = placesN k s ps.toList from fun k => placesN_congr fun t ht => hs t (by simpa using ht)]
  case load => exact absurd rfl hr
  case store t x y => rw [pe_congr (x := x) fun t ht => hs t (by simp [ht]), pe_congr (x := y) fun t ht => hs t (by simp [ht])]
  case nilCheck x => rw [pe_congr fun t ht => hs t (by simp [ht])]
  case binOp op t x y u => rw [pe_congr (x := x) fun t ht => hs t (by simp [ht]), pe_congr (x := y) fun t ht => hs t (by simp [ht])]
  case unOp op t x => rw [pe_congr fun t ht => hs t (by simp [ht])]
  case convert a b x => rw [pe_congr fun t ht => hs t (by simp [ht])]
  case makeSlice t x y => rw [pe_congr (x := x) fun t ht => hs t (by simp [ht]), pe_congr (x := y) fun t ht => hs t (by simp [ht])]
  case slice t x l h m =>
    rw [pe_congr (x := x) fun t ht => hs t (by simp [ht]), peO_congr (x := l) fun t ht => hs t (by simp [ht]), peO_congr (x := h) fun t ht => hs t (by simp [ht]), peO_congr (x := m) fun t ht => hs t (by simp [ht])]
  case fieldAddr t x f => rw [pe_congr fun t ht => hs t (by simp [ht])]
  case field t x f => rw [pe_congr fun t ht => hs t (by simp [ht])]
  case indexAddr t x y => rw [pe_congr (x := x) fun t ht => hs t (by simp [ht]), pe_congr (x := y) fun t ht => hs t (by simp [ht])]
  case makeFunc f b cs => rw [peAll_congr (l := cs.toList) fun t ht => hs t (by simp at ht ⊢; exact .inr ht)]
  case extract x i => rw [tu_congr fun t ht => hs t (by simp [ht])]
  case call c =>
    obtain ⟨callee, args, tys⟩ := c
    cases callee with
    | builtin b =>
      simp only [Call.operands] at hs
      cases b <;> first | exact absurd rfl hr | exact evB_congr fun t ht => hs t (by simpa using ht)
    | value f =>
      simp only
      simp only [Call.operands] at hs
      rw [pe_congr (x := f) fun t ht => hs t (by simp [ht]), peAll_congr (l := args.toList) fun t ht => hs t (by simp at ht ⊢; exact .inr ht)]
    | invoke r m => rfl

theorem evA_mono (md : Md) {op : Op} (hs : ∀ t, .tmp t ∈ op.operands → s'.slots[t]? = s.slots[t]?) (hst : ∀ (id : Nat) (b : Box), s.st[id]? = some b → b ≠ .gone → s'.st[id]? = some b) (hb : evA P mb s op ≠ .bad) : evA P mb s' op = evA P mb s op := by
  by_cases hr : cl md op = .r
  case neg => exact evA_congr md hs hr
  case pos =>
  have loadEq : ∀ (i : TI) (p : Option PE), loadA i s.st p ≠ none → loadA i s'.st p = loadA i s.st p := by
    intro i p hp
    unfold loadA at hp ⊢
    split
    · rename_i id off
      simp only at hp
      cases hbx : s.st[id]? with
      | none => rw [hbx] at hp; exact absurd rfl hp
      | some b =>
        rw [hbx] at hp
        cases b with
        | gone => exact absurd rfl hp
        | live cs => rw [hst id _ hbx (by simp)]
        | frz cs => rw [hst id _ hbx (by simp)]
    · rfl
    · rfl
  have slEq : ∀ (n : Nat) (p : Option PE), slCells s.st n p ≠ none → slCells s'.st n p = slCells s.st n p := by
    intro n p hp
    unfold slCells at hp ⊢
    split
    · rfl
    · rfl
    · rename_i id off len cap sz
      simp only at hp
      cases hbx : s.st[id]? with
      | none => rw [hbx] at hp; exact absurd rfl hp
      | some b =>
        rw [hbx] at hp
        cases b with
        | gone => exact absurd rfl hp
        | live cs => rw [hst id _ hbx (by simp)]
        | frz cs => rw [hst id _ hbx (by simp)]
    · rfl
  cases op <;> try (simp [cl, wfOp, calleeOf] at hr; done)
  case load t x =>
    simp only [Op.operands] at hs
    have hx : s'.pe x = s.pe x := pe_congr fun t ht => hs t (by simp [ht])
    simp only [evA] at hb ⊢
    split
    · rename_i i ht
      rw [ht] at hb
      simp only at hb
      rw [hx, loadEq]
      intro hn
      rw [hn] at hb
      exact hb rfl
    · rfl
  case call c =>
    obtain ⟨callee, args, tys⟩ := c
    cases callee with
    | builtin b =>
      cases b <;> try (simp [cl, wfOp, calleeOf] at hr; done)
      case append =>
        simp only [Op.operands, Call.operands] at hs
        simp only [evA] at hb ⊢
        split
        · rename_i x y t u hargs htys
          have ha : args = #[x, y] := by cases args; simp at hargs; rw [hargs]
          have hty : tys = #[t, u] := by cases tys; simp at htys; rw [htys]
          subst ha; subst hty
          have hx : s'.pe x = s.pe x := pe_congr fun t ht => hs t (by simp [ht])
          have hy : s'.pe y = s.pe y := pe_congr fun t ht => hs t (by simp [ht])
          rw [hx, hy]
          simp only at hb
          repeat' (split at hb <;> try (exact absurd rfl hb))
          all_goals (try simp only [*])
          all_goals
            unfold appA at hb ⊢
            rw [slEq]
            intro hn
            rw [hn] at hb
            exact hb rfl
        · rfl
    | value f => unfold cl at hr; simp only at hr; split at hr <;> cases hr
    | invoke r m => simp [cl, wfOp, calleeOf] at hr
end congr
end Go.PL
