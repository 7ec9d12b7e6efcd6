/- Steps through Go's operations, one lemma an operation: frames as lists of known slots. No conditions: general lemmas. -/
import Derived.Tactics
import Derived.Orders
import Derived.Below
namespace Go.Mi
open Go.RowKit

/-- the first value that a list has for a slot -/
def lk : List (Nat × Value) → Nat → Option Value
  | [], _ => none
  | (s, v) :: r, t => bif Nat.beq s t then some v else lk r t

theorem beqf {s t : Nat} (h : ¬ s = t) : Nat.beq s t = false := by
  cases e : Nat.beq s t with
  | false => rfl
  | true => exact absurd (Nat.eq_of_beq_eq_true e) h

/-- a frame of n slots, of which some are known -/
structure Frm (a : Act) (n : Nat) (L : List (Nat × Value)) : Prop where
  size : a.tmps.size = n
  defers : a.defers = []
  get : ∀ t v, lk L t = some v → a.tmps.getD t undef = v

def ev (L : List (Nat × Value)) : Operand → Option Value
  | .tmp t => lk L t
  | .const v => some v
  | .global g => some (.pointer (some ⟨g, 0, none⟩))
  | .func f => some (.func (.func f) #[] #[])

def evs (L : List (Nat × Value)) : List Operand → Option (List Value)
  | [] => some []
  | x :: r => match ev L x, evs L r with
    | some v, some vs => some (v :: vs)
    | _, _ => none

theorem Frm.eval {a : Act} {n : Nat} {L : List (Nat × Value)} (h : Frm a n L) {x : Operand} {v : Value} (hx : ev L x = some v) : a.eval x = v := by
  cases x with
  | tmp t => exact h.get t v hx
  | const u => simpa [ev, Act.eval] using hx
  | global g => simpa [ev, Act.eval] using hx
  | func f => simpa [ev, Act.eval] using hx

theorem Frm.evals {a : Act} {n : Nat} {L : List (Nat × Value)} (h : Frm a n L) : ∀ {xs : List Operand} {vs : List Value}, evs L xs = some vs → xs.map a.eval = vs
  | [], vs, hx => by simpa [evs] using hx
  | x :: r, vs, hx => by
    simp only [evs] at hx
    split at hx
    · rename_i v us h1 h2
      simp only [Option.some.injEq] at hx
      subst hx
      simp [h.eval h1, h.evals h2]
    · simp at hx

theorem Frm.put {a : Act} {n : Nat} {L : List (Nat × Value)} (h : Frm a n L) {d : Nat} (hd : Nat.blt d n = true) (v : Value) : Frm (a.put (some d) v) n ((d, v) :: L) := by
  have hd' : d < n := by simpa [Nat.blt_eq] using hd
  refine ⟨by simp [Act.put, h.size], by simpa [Act.put] using h.defers, fun t u hu => ?_⟩
  simp only [lk] at hu
  by_cases e : d = t
  · subst e
    simp at hu
    subst hu
    simp [Act.put, h.size, hd']
  · have : Nat.beq d t = false := beqf e
    simp only [this, cond_false] at hu
    have := h.get t u hu
    simp [Act.put, Array.getElem?_setIfInBounds_ne e]
    simpa using this

theorem Frm.put_none {a : Act} {n : Nat} {L : List (Nat × Value)} (h : Frm a n L) (v : Value) : Frm (a.put none v) n L := h

/-- all that a shorter list says -/
def subL (L : List (Nat × Value)) : List (Nat × Value) → Prop
  | [] => True
  | (s, v) :: r => lk L s = some v ∧ subL L r

theorem Frm.sub {a : Act} {n : Nat} {L : List (Nat × Value)} (h : Frm a n L) : ∀ {L' : List (Nat × Value)}, subL L L' → Frm a n L'
  | [], _ => ⟨h.size, h.defers, fun t v hv => by simp [lk] at hv⟩
  | (s, u) :: r, hs => by
    have ih := h.sub hs.2
    refine ⟨h.size, h.defers, fun t v hv => ?_⟩
    simp only [lk] at hv
    by_cases e : s = t
    · subst e
      simp at hv
      subst hv
      exact h.get s u hs.1
    · have : Nat.beq s t = false := beqf e
      simp only [this, cond_false] at hv
      exact ih.get t v hv

/-- a call's first frame -/
theorem Frm.enter {n : Nat} {vs : List Value} (hn : vs.length ≤ n) :
    Frm { tmps := vs.toArray ++ Array.replicate (n - vs.toArray.size) undef, defers := [] } n (vs.zipIdx.map fun p => (p.2, p.1)) := by
  refine ⟨by simp; omega, rfl, ?_⟩
  intro t v hv
  have key : ∀ (l : List Value) (k : Nat), lk ((l.zipIdx k).map fun p => (p.2, p.1)) t = some v → k ≤ t ∧ l[t - k]? = some v := by
    intro l
    induction l with
    | nil => intro k h; simp [lk] at h
    | cons x l ih =>
      intro k h
      simp only [List.zipIdx_cons, List.map_cons, lk] at h
      by_cases e : k = t
      · subst e; simp at h; simp [h]
      · have : Nat.beq k t = false := beqf e
        simp only [this, cond_false] at h
        obtain ⟨h1, h2⟩ := ih (k + 1) h
        refine ⟨by omega, ?_⟩
        have : t - k = (t - (k + 1)) + 1 := by omega
        rw [this]
        simpa using h2
  obtain ⟨_, h2⟩ := key vs 0 hv
  simp at h2
  have hl : t < vs.length := by
    rcases Nat.lt_or_ge t vs.length with h | h
    · exact h
    · simp [List.getElem?_eq_none h] at h2
  have h3 : vs[t] = v := by simpa [List.getElem?_eq_getElem hl] using h2
  simp [Array.getElem?_append, hl, h3]

/-- One operation, in a frame of which L is known: what it yields, and the world behind it. -/
def Ok1 (P : Program) (o : Oper) (n : Nat) (L : List (Nat × Value)) (w : World) (R : Value → World → Prop) : Prop :=
  ∀ (a : Act) (K : Act → World → Prop) (Q : Exit → Act → World → Prop), Frm a n L → (∀ v w', R v w' → K (a.put o.dst v) w') → o.wp P a w K Q

/-- .. one value, one world -/
def Det (P : Program) (o : Oper) (n : Nat) (L : List (Nat × Value)) (w : World) (v : Value) (w2 : World) : Prop :=
  Ok1 P o n L w fun v' w' => v' = v ∧ w' = w2

section
variable {P : Program} {ops : Array Oper} {Q : Exit → Act → World → Prop} {a : Act} {w w2 : World} {rest : List Oper} {n : Nat} {L : List (Nat × Value)} {v : Value}

theorem Ok1.mono {o : Oper} {R R' : Value → World → Prop} (h : Ok1 P o n L w R) (hr : ∀ v w', R v w' → R' v w') : Ok1 P o n L w R' :=
  fun a K Q hF k => h a K Q hF fun v w' r => k v w' (hr v w' r)

theorem Det.of_run {o : Oper} (h : ∀ a, Frm a n L → (execOp a.eval o).run P w = .ok (.value v) w2) : Det P o n L w v w2 := by
  intro a K Q hF k
  simp only [Oper.wp, h a hF, Oper.upon_value]
  exact k _ _ ⟨rfl, rfl⟩

theorem Det.of_skip {o : Oper} (h : ∀ a, Frm a n L → (execOp a.eval o).run P w = .ok .skip w2) : Det P o n L w undef w2 := by
  intro a K Q hF k
  simp only [Oper.wp, h a hF, Oper.upon_skip]
  exact k _ _ ⟨rfl, rfl⟩

theorem wl_step {o : Oper} {R : Value → World → Prop} (h : Ok1 P o n L w R) (hg : o.guard = none) (hF : Frm a n L)
    (k : ∀ v w', R v w' → wpList P ops Q rest (a.put o.dst v) w') : wpList P ops Q (o :: rest) a w := by
  unfold wpList
  rw [if_pos (by simp [Region.wanted, hg])]
  exact .inl (h a _ Q hF k)

/-- an operation with a slot, of one value -/
theorem wl {d : Nat} {op : Op} {ty : TypeId} {pos : String} {af : Array Edge} (h : Det P ⟨some d, op, ty, pos, af, none⟩ n L w v w2) (hd : Nat.blt d n = true) (hF : Frm a n L)
    (k : ∀ a', Frm a' n ((d, v) :: L) → wpList P ops Q rest a' w2) : wpList P ops Q (⟨some d, op, ty, pos, af, none⟩ :: rest) a w :=
  wl_step h rfl hF fun _ _ ⟨hv, hw⟩ => by subst hv; subst hw; exact k _ (hF.put hd _)

/-- an operation without a slot -/
theorem wl0 {op : Op} {ty : TypeId} {pos : String} {af : Array Edge} (h : Det P ⟨none, op, ty, pos, af, none⟩ n L w v w2) (hF : Frm a n L)
    (k : ∀ a', Frm a' n L → wpList P ops Q rest a' w2) : wpList P ops Q (⟨none, op, ty, pos, af, none⟩ :: rest) a w :=
  wl_step h rfl hF fun _ _ ⟨hv, hw⟩ => by subst hv; subst hw; exact k _ (hF.put_none _)

/-- an operation with a slot, of more than one value or world -/
theorem wlR {d : Nat} {op : Op} {ty : TypeId} {pos : String} {af : Array Edge} {R : Value → World → Prop} (h : Ok1 P ⟨some d, op, ty, pos, af, none⟩ n L w R) (hd : Nat.blt d n = true) (hF : Frm a n L)
    (k : ∀ v w' a', R v w' → Frm a' n ((d, v) :: L) → wpList P ops Q rest a' w') : wpList P ops Q (⟨some d, op, ty, pos, af, none⟩ :: rest) a w :=
  wl_step h rfl hF fun _ _ hr => k _ _ _ hr (hF.put hd _)

theorem wl_nil (k : Q .normal a w) : wpList P ops Q [] a w := k

/-- what a guard's operation has yielded -/
def gd (ops : Array Oper) (L : List (Nat × Value)) (j : Nat) : Option Bool :=
  match ((ops[j]?).bind (·.dst)).bind (lk L ·) with
  | some (.bool b) => some b
  | _ => none

theorem Frm.yielded (hF : Frm a n L) {j : Nat} {b : Bool} (h : gd ops L j = some b) : yielded ops a.tmps j = some b := by
  unfold gd at h
  unfold Go.yielded
  cases h1 : (ops[j]?).bind (·.dst) with
  | none => simp [h1] at h
  | some d =>
    rw [h1] at h
    simp only [Option.bind_some] at h ⊢
    cases h2 : lk L d with
    | none => simp [h2] at h
    | some u =>
      rw [h2] at h
      have h3 := hF.get d u h2
      cases u <;> simp at h
      subst h
      cases h4 : a.tmps[d]? with
      | none => simp [h4, undef] at h3
      | some x => simp [h4] at h3; subst h3; rfl

/-- guarded, and wanted -/
theorem wlg {d : Nat} {op : Op} {ty : TypeId} {pos : String} {af : Array Edge} {j : Nat} {b : Bool} (hg : gd ops L j = some b) (h : Det P ⟨some d, op, ty, pos, af, some (j, b)⟩ n L w v w2) (hd : Nat.blt d n = true) (hF : Frm a n L)
    (k : ∀ a', Frm a' n ((d, v) :: L) → wpList P ops Q rest a' w2) : wpList P ops Q (⟨some d, op, ty, pos, af, some (j, b)⟩ :: rest) a w := by
  unfold wpList
  rw [if_pos (by simp [Region.wanted, hF.yielded hg])]
  exact .inl (h a _ Q hF fun _ _ ⟨hv, hw⟩ => by subst hv; subst hw; exact k _ (hF.put hd _))

theorem wlgR {d : Nat} {op : Op} {ty : TypeId} {pos : String} {af : Array Edge} {j : Nat} {b : Bool} {R : Value → World → Prop} (hg : gd ops L j = some b) (h : Ok1 P ⟨some d, op, ty, pos, af, some (j, b)⟩ n L w R) (hd : Nat.blt d n = true) (hF : Frm a n L)
    (k : ∀ v w' a', R v w' → Frm a' n ((d, v) :: L) → wpList P ops Q rest a' w') : wpList P ops Q (⟨some d, op, ty, pos, af, some (j, b)⟩ :: rest) a w := by
  unfold wpList
  rw [if_pos (by simp [Region.wanted, hF.yielded hg])]
  exact .inl (h a _ Q hF fun _ _ hr => k _ _ _ hr (hF.put hd _))

/-- guarded, and not wanted -/
theorem wlgs {d : Nat} {op : Op} {ty : TypeId} {pos : String} {af : Array Edge} {j : Nat} {b c : Bool} (hg : gd ops L j = some c) (hn : (c == b) = false) (hd : Nat.blt d n = true) (hF : Frm a n L)
    (k : ∀ a', Frm a' n ((d, undef) :: L) → wpList P ops Q rest a' w) : wpList P ops Q (⟨some d, op, ty, pos, af, some (j, b)⟩ :: rest) a w := by
  unfold wpList
  rw [if_neg (by simp [Region.wanted, hF.yielded hg]; simpa using hn)]
  exact k _ (hF.put hd _)
end
end Go.Mi
