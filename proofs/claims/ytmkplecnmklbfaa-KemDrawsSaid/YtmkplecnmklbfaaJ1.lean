/- General lemmas, walks. -/
import Derived.Tactics
import Derived.Orders
import Derived.Below
import Derived.Laws.Cells
import Derived.Laws.StructEq
import Derived.Laws.BytesString
import Derived.ChangeKeysEq
import Derived.MapKept
import Derived.Maps.AppendAt
import Derived.Laws.Strings
set_option linter.unusedSimpArgs false
set_option linter.unusedVariables false
set_option linter.unnecessarySimpa false
namespace Go.Mi
open Go.RowKit

/-- the first value that a list has for a slot -/
def lk : List (Nat × Value) → Nat → Option Value
  | [], _ => none
  | (s, v) :: r, t => bif Nat.beq s t then some v else lk r t

theorem beqf {s t : Nat} (h : ¬ s = t) : Nat.beq s t = false := by
  cases e : Nat.beq s t with
  | false => rfl
  | true => exact absurd (Nat.eq_of_beq_eq_true e) h

/-- a frame of n slots, of which some are known -/
structure Frm (a : Act) (n : Nat) (L : List (Nat × Value)) : Prop where
  size : a.tmps.size = n
  defers : a.defers = []
  get : ∀ t v, lk L t = some v → a.tmps.getD t undef = v

def ev (L : List (Nat × Value)) : Operand → Option Value
  | .tmp t => lk L t
  | .const v => some v
  | .global g => some (.pointer (some ⟨g, 0, none⟩))
  | .func f => some (.func (.func f) #[] #[])

def evs (L : List (Nat × Value)) : List Operand → Option (List Value)
  | [] => some []
  | x :: r => match ev L x, evs L r with
    | some v, some vs => some (v :: vs)
    | _, _ => none

theorem Frm.eval {a : Act} {n : Nat} {L : List (Nat × Value)} (h : Frm a n L) {x : Operand} {v : Value} (hx : ev L x = some v) : a.eval x = v := by
  cases x with
  | tmp t => exact h.get t v hx
  | const u => simpa [ev, Act.eval] using hx
  | global g => simpa [ev, Act.eval] using hx
  | func f => simpa [ev, Act.eval] using hx

theorem Frm.evals {a : Act} {n : Nat} {L : List (Nat × Value)} (h : Frm a n L) : ∀ {xs : List Operand} {vs : List Value}, evs L xs = some vs → xs.map a.eval = vs
  | [], vs, hx => by simpa [evs] using hx
  | x :: r, vs, hx => by
    simp only [evs] at hx
    split at hx
    · rename_i v us h1 h2
      simp only [Option.some.injEq] at hx
      subst hx
      simp [h.eval h1, h.evals h2]
    · simp at hx

theorem Frm.put {a : Act} {n : Nat} {L : List (Nat × Value)} (h : Frm a n L) {d : Nat} (hd : Nat.blt d n = true) (v : Value) : Frm (a.put (some d) v) n ((d, v) :: L) := by
  have hd' : d < n := by simpa [Nat.blt_eq] using hd
  refine ⟨by simp [Act.put, h.size], by simpa [Act.put] using h.defers, fun t u hu => ?_⟩
  simp only [lk] at hu
  by_cases e : d = t
  · subst e
    simp at hu
    subst hu
    simp [Act.put, h.size, hd']
  · have : Nat.beq d t = false := beqf e
    simp only [this, cond_false] at hu
    have := h.get t u hu
    simp [Act.put, Array.getElem?_setIfInBounds_ne e]
    simpa using this

theorem Frm.put_none {a : Act} {n : Nat} {L : List (Nat × Value)} (h : Frm a n L) (v : Value) : Frm (a.put none v) n L := h

/-- all that a shorter list says -/
def subL (L : List (Nat × Value)) : List (Nat × Value) → Prop
  | [] => True
  | (s, v) :: r => lk L s = some v ∧ subL L r

theorem Frm.sub {a : Act} {n : Nat} {L : List (Nat × Value)} (h : Frm a n L) : ∀ {L' : List (Nat × Value)}, subL L L' → Frm a n L'
  | [], _ => ⟨h.size, h.defers, fun t v hv => by simp [lk] at hv⟩
  | (s, u) :: r, hs => by
    have ih := h.sub hs.2
    refine ⟨h.size, h.defers, fun t v hv => ?_⟩
    simp only [lk] at hv
    by_cases e : s = t
    · subst e
      simp at hv
      subst hv
      exact h.get s u hs.1
    · have : Nat.beq s t = false := beqf e
      simp only [this, cond_false] at hv
      exact ih.get t v hv

/-- a call's first frame -/
theorem Frm.enter {n : Nat} {vs : List Value} (hn : vs.length ≤ n) :
    Frm { tmps := vs.toArray ++ Array.replicate (n - vs.toArray.size) undef, defers := [] } n (vs.zipIdx.map fun p => (p.2, p.1)) := by
  refine ⟨by simp; omega, rfl, ?_⟩
  intro t v hv
  have key : ∀ (l : List Value) (k : Nat), lk ((l.zipIdx k).map fun p => (p.2, p.1)) t = some v → k ≤ t ∧ l[t - k]? = some v := by
    intro l
    induction l with
    | nil => intro k h; simp [lk] at h
    | cons x l ih =>
      intro k h
      simp only [List.zipIdx_cons, List.map_cons, lk] at h
      by_cases e : k = t
      · subst e; simp at h; simp [h]
      · have : Nat.beq k t = false := beqf e
        simp only [this, cond_false] at h
        obtain ⟨h1, h2⟩ := ih (k + 1) h
        refine ⟨by omega, ?_⟩
        have : t - k = (t - (k + 1)) + 1 := by omega
        rw [this]
        simpa using h2
  obtain ⟨_, h2⟩ := key vs 0 hv
  simp at h2
  have hl : t < vs.length := by
    rcases Nat.lt_or_ge t vs.length with h | h
    · exact h
    · simp [List.getElem?_eq_none h] at h2
  have h3 : vs[t] = v := by simpa [List.getElem?_eq_getElem hl] using h2
  simp [Array.getElem?_append, hl, h3]

/-- One operation, in a frame of which L is known: what it yields, and the world behind it. -/
def Ok1 (P : Program) (o : Oper) (n : Nat) (L : List (Nat × Value)) (w : World) (R : Value → World → Prop) : Prop :=
  ∀ (a : Act) (K : Act → World → Prop) (Q : Exit → Act → World → Prop), Frm a n L → (∀ v w', R v w' → K (a.put o.dst v) w') → o.wp P a w K Q

/-- .. one value, one world -/
def Det (P : Program) (o : Oper) (n : Nat) (L : List (Nat × Value)) (w : World) (v : Value) (w2 : World) : Prop :=
  Ok1 P o n L w fun v' w' => v' = v ∧ w' = w2

section
variable {P : Program} {ops : Array Oper} {Q : Exit → Act → World → Prop} {a : Act} {w w2 : World} {rest : List Oper} {n : Nat} {L : List (Nat × Value)} {v : Value}

theorem Ok1.mono {o : Oper} {R R' : Value → World → Prop} (h : Ok1 P o n L w R) (hr : ∀ v w', R v w' → R' v w') : Ok1 P o n L w R' :=
  fun a K Q hF k => h a K Q hF fun v w' r => k v w' (hr v w' r)

theorem Det.of_run {o : Oper} (h : ∀ a, Frm a n L → (execOp a.eval o).run P w = .ok (.value v) w2) : Det P o n L w v w2 := by
  intro a K Q hF k
  simp only [Oper.wp, h a hF, Oper.upon_value]
  exact k _ _ ⟨rfl, rfl⟩

theorem Det.of_skip {o : Oper} (h : ∀ a, Frm a n L → (execOp a.eval o).run P w = .ok .skip w2) : Det P o n L w undef w2 := by
  intro a K Q hF k
  simp only [Oper.wp, h a hF, Oper.upon_skip]
  exact k _ _ ⟨rfl, rfl⟩

theorem wl_step {o : Oper} {R : Value → World → Prop} (h : Ok1 P o n L w R) (hg : o.guard = none) (hF : Frm a n L)
    (k : ∀ v w', R v w' → wpList P ops Q rest (a.put o.dst v) w') : wpList P ops Q (o :: rest) a w := by
  unfold wpList
  rw [if_pos (by simp [Region.wanted, hg])]
  exact .inl (h a _ Q hF k)

/-- an operation with a slot, of one value -/
theorem wl {d : Nat} {op : Op} {ty : TypeId} {pos : String} {af : Array Edge} (h : Det P ⟨some d, op, ty, pos, af, none⟩ n L w v w2) (hd : Nat.blt d n = true) (hF : Frm a n L)
    (k : ∀ a', Frm a' n ((d, v) :: L) → wpList P ops Q rest a' w2) : wpList P ops Q (⟨some d, op, ty, pos, af, none⟩ :: rest) a w :=
  wl_step h rfl hF fun _ _ ⟨hv, hw⟩ => by subst hv; subst hw; exact k _ (hF.put hd _)

/-- an operation without a slot -/
theorem wl0 {op : Op} {ty : TypeId} {pos : String} {af : Array Edge} (h : Det P ⟨none, op, ty, pos, af, none⟩ n L w v w2) (hF : Frm a n L)
    (k : ∀ a', Frm a' n L → wpList P ops Q rest a' w2) : wpList P ops Q (⟨none, op, ty, pos, af, none⟩ :: rest) a w :=
  wl_step h rfl hF fun _ _ ⟨hv, hw⟩ => by subst hv; subst hw; exact k _ (hF.put_none _)

/-- an operation with a slot, of more than one value or world -/
theorem wlR {d : Nat} {op : Op} {ty : TypeId} {pos : String} {af : Array Edge} {R : Value → World → Prop} (h : Ok1 P ⟨some d, op, ty, pos, af, none⟩ n L w R) (hd : Nat.blt d n = true) (hF : Frm a n L)
    (k : ∀ v w' a', R v w' → Frm a' n ((d, v) :: L) → wpList P ops Q rest a' w') : wpList P ops Q (⟨some d, op, ty, pos, af, none⟩ :: rest) a w :=
  wl_step h rfl hF fun _ _ hr => k _ _ _ hr (hF.put hd _)

theorem wl_nil (k : Q .normal a w) : wpList P ops Q [] a w := k

/-- what a guard's operation has yielded -/
def gd (ops : Array Oper) (L : List (Nat × Value)) (j : Nat) : Option Bool :=
  match ((ops[j]?).bind (·.dst)).bind (lk L ·) with
  | some (.bool b) => some b
  | _ => none

theorem Frm.yielded (hF : Frm a n L) {j : Nat} {b : Bool} (h : gd ops L j = some b) : yielded ops a.tmps j = some b := by
  unfold gd at h
  unfold Go.yielded
  cases h1 : (ops[j]?).bind (·.dst) with
  | none => simp [h1] at h
  | some d =>
    rw [h1] at h
    simp only [Option.bind_some] at h ⊢
    cases h2 : lk L d with
    | none => simp [h2] at h
    | some u =>
      rw [h2] at h
      have h3 := hF.get d u h2
      cases u <;> simp at h
      subst h
      cases h4 : a.tmps[d]? with
      | none => simp [h4, undef] at h3
      | some x => simp [h4] at h3; subst h3; rfl

/-- guarded, and wanted -/
theorem wlg {d : Nat} {op : Op} {ty : TypeId} {pos : String} {af : Array Edge} {j : Nat} {b : Bool} (hg : gd ops L j = some b) (h : Det P ⟨some d, op, ty, pos, af, some (j, b)⟩ n L w v w2) (hd : Nat.blt d n = true) (hF : Frm a n L)
    (k : ∀ a', Frm a' n ((d, v) :: L) → wpList P ops Q rest a' w2) : wpList P ops Q (⟨some d, op, ty, pos, af, some (j, b)⟩ :: rest) a w := by
  unfold wpList
  rw [if_pos (by simp [Region.wanted, hF.yielded hg])]
  exact .inl (h a _ Q hF fun _ _ ⟨hv, hw⟩ => by subst hv; subst hw; exact k _ (hF.put hd _))

theorem wlgR {d : Nat} {op : Op} {ty : TypeId} {pos : String} {af : Array Edge} {j : Nat} {b : Bool} {R : Value → World → Prop} (hg : gd ops L j = some b) (h : Ok1 P ⟨some d, op, ty, pos, af, some (j, b)⟩ n L w R) (hd : Nat.blt d n = true) (hF : Frm a n L)
    (k : ∀ v w' a', R v w' → Frm a' n ((d, v) :: L) → wpList P ops Q rest a' w') : wpList P ops Q (⟨some d, op, ty, pos, af, some (j, b)⟩ :: rest) a w := by
  unfold wpList
  rw [if_pos (by simp [Region.wanted, hF.yielded hg])]
  exact .inl (h a _ Q hF fun _ _ hr => k _ _ _ hr (hF.put hd _))

/-- guarded, and not wanted -/
theorem wlgs {d : Nat} {op : Op} {ty : TypeId} {pos : String} {af : Array Edge} {j : Nat} {b c : Bool} (hg : gd ops L j = some c) (hn : (c == b) = false) (hd : Nat.blt d n = true) (hF : Frm a n L)
    (k : ∀ a', Frm a' n ((d, undef) :: L) → wpList P ops Q rest a' w) : wpList P ops Q (⟨some d, op, ty, pos, af, some (j, b)⟩ :: rest) a w := by
  unfold wpList
  rw [if_neg (by simp [Region.wanted, hF.yielded hg]; simpa using hn)]
  exact k _ (hF.put hd _)
end
end Go.Mi
namespace Go.Mi
open Go.RowKit

theorem add_none (b o i : Nat) : (⟨b, o, none⟩ : Addr).add i = ⟨b, o + i, none⟩ := by
  unfold Addr.add
  split <;> simp_all

theorem wrap_i64 {x : Int} (h1 : -9223372036854775808 ≤ x) (h2 : x ≤ 9223372036854775807) : IntKind.wrap .i64 x = x := by
  simp [IntKind.wrap, IntKind.bits, IntKind.signed]; split <;> omega
theorem wrap_i32 {x : Int} (h1 : -2147483648 ≤ x) (h2 : x ≤ 2147483647) : IntKind.wrap .i32 x = x := by
  simp [IntKind.wrap, IntKind.bits, IntKind.signed]; split <;> omega
theorem wrap_u64 {x : Int} (h1 : 0 ≤ x) (h2 : x ≤ 18446744073709551615) : IntKind.wrap .u64 x = x := by
  simp [IntKind.wrap, IntKind.bits, IntKind.signed]; omega
theorem wrap_u32 {x : Int} (h1 : 0 ≤ x) (h2 : x ≤ 4294967295) : IntKind.wrap .u32 x = x := by
  simp [IntKind.wrap, IntKind.bits, IntKind.signed]; omega
theorem wrap_u16 {x : Int} (h1 : 0 ≤ x) (h2 : x ≤ 65535) : IntKind.wrap .u16 x = x := by
  simp [IntKind.wrap, IntKind.bits, IntKind.signed]; omega
theorem wrap_u8 {x : Int} (h1 : 0 ≤ x) (h2 : x ≤ 255) : IntKind.wrap .u8 x = x := by
  simp [IntKind.wrap, IntKind.bits, IntKind.signed]; omega
theorem wrap_u16m (x : Int) : IntKind.wrap .u16 x = x % 65536 := by
  simp [IntKind.wrap, IntKind.bits, IntKind.signed]
theorem wrap_u8m (x : Int) : IntKind.wrap .u8 x = x % 256 := by
  simp [IntKind.wrap, IntKind.bits, IntKind.signed]
theorem wrap_u32m (x : Int) : IntKind.wrap .u32 x = x % 4294967296 := by
  simp [IntKind.wrap, IntKind.bits, IntKind.signed]
theorem tmod_pos {x y : Int} (h : 0 ≤ x) : x.tmod y = x % y := Int.tmod_eq_emod_of_nonneg h
theorem tdiv_pos {x y : Int} (h : 0 ≤ x) : x.tdiv y = x / y := Int.tdiv_eq_ediv_of_nonneg h

theorem take_set' {α : Type} : ∀ (l : List α) (i : Nat) (v : α), i < l.length → (l.set i v).take (i + 1) = l.take i ++ [v]
  | [], i, v, h => by simp at h
  | x :: l, 0, v, h => by simp
  | x :: l, i + 1, v, h => by simp at h; simp [take_set' l i v h]
theorem drop_set' {α : Type} : ∀ (l : List α) (i : Nat) (v : α) (j : Nat), i < j → (l.set i v).drop j = l.drop j
  | [], i, v, j, h => by simp
  | x :: l, 0, v, j + 1, h => by simp
  | x :: l, i + 1, v, j + 1, h => by simp [drop_set' l i v j (by omega)]

section
variable {P : Program} {w : World} {n : Nat} {L : List (Nat × Value)} {ds : Option Tmp} {ty : TypeId} {pos : String} {af : Array Edge} {gu : Option (Nat × Bool)}

theorem d_move {x : Operand} {v : Value} (hx : ev L x = some v) : Det P ⟨ds, .move x, ty, pos, af, gu⟩ n L w v w :=
  Det.of_run fun a hF => by simp [execOp, hF.eval hx]

theorem d_assign {x : Operand} {v : Value} (hx : ev L x = some v) : Det P ⟨ds, .assign x, ty, pos, af, gu⟩ n L w v w :=
  Det.of_run fun a hF => by simp [execOp, hF.eval hx]

theorem d_pick {c x y : Operand} {b : Bool} {v : Value} (hc : ev L c = some (.bool b)) (hv : ev L (bif b then x else y) = some v) : Det P ⟨ds, .pick c x y, ty, pos, af, gu⟩ n L w v w :=
  Det.of_run fun a hF => by
    cases b <;> simp at hv <;> simp [execOp, hF.eval hc, hF.eval hv, asBool]

/-- 'pick c x false' where x is known if c is true, and 'pick c true y' -/
theorem d_not {x : Operand} {b : Bool} {t : TypeId} (hx : ev L x = some (.bool b)) : Det P ⟨ds, .unOp .not t x, ty, pos, af, gu⟩ n L w (.bool !b) w :=
  Det.of_run fun a hF => by simp [execOp, hF.eval hx, Op.unary]

theorem d_neg {x : Operand} {k : IntKind} {p r : Int} {t : TypeId} (hx : ev L x = some (.int k p)) (hr : k.wrap (0 - p) = r) : Det P ⟨ds, .unOp .neg t x, ty, pos, af, gu⟩ n L w (.int k r) w :=
  Det.of_run fun a hF => by subst hr; simp [execOp, hF.eval hx, Op.unary, Op.intArith]

section
variable {x y : Operand} {k : IntKind} {p q r : Int} {t t' : TypeId}

theorem d_add (hx : ev L x = some (.int k p)) (hy : ev L y = some (.int k q)) (hr : k.wrap (p + q) = r) : Det P ⟨ds, .binOp .add t x y t', ty, pos, af, gu⟩ n L w (.int k r) w :=
  Det.of_run fun a hF => by subst hr; simp [execOp, hF.eval hx, hF.eval hy, eqGuard, binOp, Op.intArith]

theorem d_sub (hx : ev L x = some (.int k p)) (hy : ev L y = some (.int k q)) (hr : k.wrap (p - q) = r) : Det P ⟨ds, .binOp .sub t x y t', ty, pos, af, gu⟩ n L w (.int k r) w :=
  Det.of_run fun a hF => by subst hr; simp [execOp, hF.eval hx, hF.eval hy, eqGuard, binOp, Op.intArith]

theorem d_mul (hx : ev L x = some (.int k p)) (hy : ev L y = some (.int k q)) (hr : k.wrap (p * q) = r) : Det P ⟨ds, .binOp .mul t x y t', ty, pos, af, gu⟩ n L w (.int k r) w :=
  Det.of_run fun a hF => by subst hr; simp [execOp, hF.eval hx, hF.eval hy, eqGuard, binOp, Op.intArith]

theorem d_quo (hx : ev L x = some (.int k p)) (hy : ev L y = some (.int k q)) (h0 : q ≠ 0) (hr : k.wrap (p.tdiv q) = r) : Det P ⟨ds, .binOp .quo t x y t', ty, pos, af, gu⟩ n L w (.int k r) w :=
  Det.of_run fun a hF => by subst hr; simp [execOp, hF.eval hx, hF.eval hy, eqGuard, binOp, Op.intDiv, h0]

theorem d_rem (hx : ev L x = some (.int k p)) (hy : ev L y = some (.int k q)) (h0 : q ≠ 0) (hr : p.tmod q = r) : Det P ⟨ds, .binOp .rem t x y t', ty, pos, af, gu⟩ n L w (.int k r) w :=
  Det.of_run fun a hF => by subst hr; simp [execOp, hF.eval hx, hF.eval hy, eqGuard, binOp, Op.intDiv, h0]

theorem d_and (hx : ev L x = some (.int k p)) (hy : ev L y = some (.int k q)) (hr : k.wrap (BitVec.ofInt k.bits p &&& BitVec.ofInt k.bits q).toNat = r) : Det P ⟨ds, .binOp .and t x y t', ty, pos, af, gu⟩ n L w (.int k r) w :=
  Det.of_run fun a hF => by subst hr; simp [execOp, hF.eval hx, hF.eval hy, eqGuard, binOp, Op.intBits]

theorem d_or (hx : ev L x = some (.int k p)) (hy : ev L y = some (.int k q)) (hr : k.wrap (BitVec.ofInt k.bits p ||| BitVec.ofInt k.bits q).toNat = r) : Det P ⟨ds, .binOp .or t x y t', ty, pos, af, gu⟩ n L w (.int k r) w :=
  Det.of_run fun a hF => by subst hr; simp [execOp, hF.eval hx, hF.eval hy, eqGuard, binOp, Op.intBits]

theorem d_xor (hx : ev L x = some (.int k p)) (hy : ev L y = some (.int k q)) (hr : k.wrap (BitVec.ofInt k.bits p ^^^ BitVec.ofInt k.bits q).toNat = r) : Det P ⟨ds, .binOp .xor t x y t', ty, pos, af, gu⟩ n L w (.int k r) w :=
  Det.of_run fun a hF => by subst hr; simp [execOp, hF.eval hx, hF.eval hy, eqGuard, binOp, Op.intBits]

theorem d_shl {k' : IntKind} (hx : ev L x = some (.int k p)) (hy : ev L y = some (.int k' q)) (h0 : 0 ≤ q) (hr : k.wrap (p * 2 ^ (min q.toNat k.bits)) = r) : Det P ⟨ds, .binOp .shl t x y t', ty, pos, af, gu⟩ n L w (.int k r) w :=
  Det.of_run fun a hF => by subst hr; have : ¬ q < 0 := by omega
                            simp [execOp, hF.eval hx, hF.eval hy, eqGuard, binOp, Op.shift, this]

theorem d_shr {k' : IntKind} (hx : ev L x = some (.int k p)) (hy : ev L y = some (.int k' q)) (h0 : 0 ≤ q) (hr : p.fdiv (2 ^ (min q.toNat k.bits)) = r) : Det P ⟨ds, .binOp .shr t x y t', ty, pos, af, gu⟩ n L w (.int k r) w :=
  Det.of_run fun a hF => by subst hr; have : ¬ q < 0 := by omega
                            simp [execOp, hF.eval hx, hF.eval hy, eqGuard, binOp, Op.shift, this]

theorem d_lss (hx : ev L x = some (.int k p)) (hy : ev L y = some (.int k q)) : Det P ⟨ds, .binOp .lss t x y t', ty, pos, af, gu⟩ n L w (.bool (decide (p < q))) w :=
  Det.of_run fun a hF => by simp [execOp, hF.eval hx, hF.eval hy, eqGuard, binOp, Op.intCmp]
theorem d_leq (hx : ev L x = some (.int k p)) (hy : ev L y = some (.int k q)) : Det P ⟨ds, .binOp .leq t x y t', ty, pos, af, gu⟩ n L w (.bool (decide (p ≤ q))) w :=
  Det.of_run fun a hF => by simp [execOp, hF.eval hx, hF.eval hy, eqGuard, binOp, Op.intCmp]
theorem d_gtr (hx : ev L x = some (.int k p)) (hy : ev L y = some (.int k q)) : Det P ⟨ds, .binOp .gtr t x y t', ty, pos, af, gu⟩ n L w (.bool (decide (q < p))) w :=
  Det.of_run fun a hF => by simp [execOp, hF.eval hx, hF.eval hy, eqGuard, binOp, Op.intCmp]
theorem d_geq (hx : ev L x = some (.int k p)) (hy : ev L y = some (.int k q)) : Det P ⟨ds, .binOp .geq t x y t', ty, pos, af, gu⟩ n L w (.bool (decide (q ≤ p))) w :=
  Det.of_run fun a hF => by simp [execOp, hF.eval hx, hF.eval hy, eqGuard, binOp, Op.intCmp]
theorem d_eql (hx : ev L x = some (.int k p)) (hy : ev L y = some (.int k q)) : Det P ⟨ds, .binOp .eql t x y t', ty, pos, af, gu⟩ n L w (.bool (decide (p = q))) w :=
  Det.of_run fun a hF => by simp [execOp, hF.eval hx, hF.eval hy, eqGuard, binOp, Op.intCmp]; rfl
theorem d_neq (hx : ev L x = some (.int k p)) (hy : ev L y = some (.int k q)) : Det P ⟨ds, .binOp .neq t x y t', ty, pos, af, gu⟩ n L w (.bool (!decide (p = q))) w :=
  Det.of_run fun a hF => by simp [execOp, hF.eval hx, hF.eval hy, eqGuard, binOp, Op.intCmp]; rfl
end

theorem run_underlying' {t : TypeId} {d : TypeDesc} (h : P.underlying t = some d) : (underlying t).run P w = .ok d w := by
  simp [underlying, h]

theorem d_conv {x : Operand} {k k' : IntKind} {p r : Int} {s t : TypeId} {d : TypeDesc} (hs : P.underlying s = some d) (ht : P.underlying t = some (.int k')) (hx : ev L x = some (.int k p)) (hr : k'.wrap p = r) :
    Det P ⟨ds, .convert s t x, ty, pos, af, gu⟩ n L w (.int k' r) w :=
  Det.of_run fun a hF => by
    subst hr
    simp [execOp, hF.eval hx, convert, run_underlying' hs, run_underlying' ht, Conv.intToInt]

theorem d_extract {x : Operand} {vs : Array Value} {i : Nat} {v : Value} (hx : ev L x = some (.tuple vs)) (hv : vs[i]? = some v) : Det P ⟨ds, .extract x i, ty, pos, af, gu⟩ n L w v w :=
  Det.of_run fun a hF => by simp [execOp, hF.eval hx, Instr.extract, hv]

theorem d_len_slice {x : Operand} {T e : TypeId} {ad : Option Addr} {l c : Nat} (hT : P.underlying T = some (.slice e)) (hx : ev L x = some (.slice ad l c)) :
    Det P ⟨ds, .call ⟨.builtin .len, #[x], #[T]⟩, ty, pos, af, gu⟩ n L w (.int .i64 l) w :=
  Det.of_run fun a hF => by simp [execOp, hF.eval hx, resolve, invoke, builtin, Builtin.len_, run_underlying' hT, goInt]

theorem d_len_string {x : Operand} {T : TypeId} {s : ByteArray} (hT : P.underlying T = some .string) (hx : ev L x = some (.string s)) :
    Det P ⟨ds, .call ⟨.builtin .len, #[x], #[T]⟩, ty, pos, af, gu⟩ n L w (.int .i64 s.size) w :=
  Det.of_run fun a hF => by simp [execOp, hF.eval hx, resolve, invoke, builtin, Builtin.len_, run_underlying' hT, goInt]

theorem d_min {x y : Operand} {T : Array TypeId} {k : IntKind} {p q r : Int} (hx : ev L x = some (.int k p)) (hy : ev L y = some (.int k q)) (hr : (if q < p then q else p) = r) :
    Det P ⟨ds, .call ⟨.builtin .min, #[x, y], T⟩, ty, pos, af, gu⟩ n L w (.int k r) w :=
  Det.of_run fun a hF => by subst hr; simp [execOp, hF.eval hx, hF.eval hy, resolve, invoke, builtin, Builtin.min_, Builtin.min2]

/-- the address of an array's element -/
theorem d_ixArr {x y : Operand} {k : IntKind} {T e : TypeId} {len b o : Nat} {i : Int} (hT : P.underlying T = some (.array len e)) (hs : (P.info? e).map (·.size) = some 1) (hx : ev L x = some (.pointer (some ⟨b, o, none⟩))) (hy : ev L y = some (.int k i))
    (h0 : 0 ≤ i) (h1 : i < len) : Det P ⟨ds, .indexAddr T x y, ty, pos, af, gu⟩ n L w (.pointer (some ⟨b, o + i.toNat, none⟩)) w :=
  Det.of_run fun a hF => by
    obtain ⟨inf, hi, hz⟩ := Option.map_eq_some_iff.1 hs
    simp [execOp, hF.eval hx, hF.eval hy, Instr.indexAt, asIntOf, run_underlying' hT, Instr.sureAddr, h0, h1, sizeOf, typeInfo, hi, hz, add_none]

/-- .. of a slice's -/
theorem d_ixSl {x y : Operand} {k : IntKind} {T e : TypeId} {len cap b o : Nat} {i : Int} (hT : P.underlying T = some (.slice e)) (hs : (P.info? e).map (·.size) = some 1) (hx : ev L x = some (.slice (some ⟨b, o, none⟩) len cap)) (hy : ev L y = some (.int k i))
    (h0 : 0 ≤ i) (h1 : i < len) : Det P ⟨ds, .indexAddr T x y, ty, pos, af, gu⟩ n L w (.pointer (some ⟨b, o + i.toNat, none⟩)) w :=
  Det.of_run fun a hF => by
    obtain ⟨inf, hi, hz⟩ := Option.map_eq_some_iff.1 hs
    simp [execOp, hF.eval hx, hF.eval hy, Instr.indexAt, asIntOf, run_underlying' hT, h0, h1, sizeOf, typeInfo, hi, hz, add_none]

/-- types of one cell -/
def TypeDesc.flat : TypeDesc → Bool
  | .struct _ | .array _ _ => false
  | _ => true

theorem run_isAgg_flat {t : TypeId} {d : TypeDesc} (h : P.underlying t = some d) (hf : TypeDesc.flat d = true) : (isAgg t).run P w = .ok false w := by
  simp only [isAgg, Sem.run_bind, run_underlying' h, Result.andThen_ok]
  cases d <;> simp_all [TypeDesc.flat]

/-- a cell that is read -/
theorem d_load1 {x : Operand} {t : TypeId} {d : TypeDesc} {ad : Addr} {v : Value} (ht : P.underlying t = some d) (hf : TypeDesc.flat d = true) (hx : ev L x = some (.pointer (some ad))) (hc : w.cell? ad = some v) :
    Det P ⟨ds, .load t x, ty, pos, af, gu⟩ n L w v w :=
  Det.of_run fun a hF => by
    simp [execOp, hF.eval hx, Instr.loadAt, Instr.sureAddr, loadVar, run_isAgg_flat ht hf, hc]

/-- element of an array that is a value -/
theorem d_index {x y : Operand} {k : IntKind} {T e : TypeId} {d : TypeDesc} {len : Nat} {cs : Array Value} {i : Int} {v : Value} (hT : P.underlying T = some (.array len e)) (he : P.underlying e = some d) (hf : TypeDesc.flat d = true) (hs : (P.info? e).map (·.size) = some 1)
    (hx : ev L x = some (.agg cs)) (hy : ev L y = some (.int k i)) (h0 : 0 ≤ i) (h1 : i < len) (hv : cs[i.toNat]? = some v) : Det P ⟨ds, .index T x y, ty, pos, af, gu⟩ n L w v w :=
  Det.of_run fun a hF => by
    obtain ⟨inf, hi, hz⟩ := Option.map_eq_some_iff.1 hs
    simp [execOp, hF.eval hx, hF.eval hy, Instr.index, asIntOf, run_underlying' hT, h0, h1, sizeOf, typeInfo, hi, hz, part, run_isAgg_flat he hf, hv]

/-- the zero value of a type, written out in the text: 'T{}' -/
theorem d_build0 {t e : TypeId} {len : Nat} {z : Array Value} (hT : P.underlying t = some (.array len e)) (hs : ((P.info? e).map (·.size)).isSome = true) (hz : (P.info? t).bind (·.zero) = some (.agg z)) : Det P ⟨ds, .build t #[], ty, pos, af, gu⟩ n L w (.agg z) w :=
  Det.of_run fun a hF => by
    obtain ⟨inf, hi, hz'⟩ := Option.bind_eq_some_iff.1 hz
    obtain ⟨s, hs'⟩ := Option.isSome_iff_exists.1 hs
    obtain ⟨inf', hi', _⟩ := Option.map_eq_some_iff.1 hs'
    simp [execOp, Instr.build, zeroValue, typeInfo, hi, hz', run_underlying' hT, sizeOf, hi', Instr.fill, Value.cells]
end

/-- a new block -/
structure NewB (w w' : World) (b : Nat) (c : Array Value) (t : TypeId) : Prop where
  num : b = w.heap.size
  eq : w' = w.alloc (.cells c t)

/-- a block written -/
structure Upd (w w' : World) (b : Nat) (c : Array Value) (t : TypeId) : Prop where
  os : w'.os = w.os
  tape : w'.tape = w.tape
  output : w'.output = w.output
  size : w'.heap.size = w.heap.size
  blk : w'.heap[b]? = some (.cells c t (0, 0))
  other : ∀ k, k ≠ b → w'.heap[k]? = w.heap[k]?

theorem Upd.refl {w : World} {b : Nat} {c : Array Value} {t : TypeId} (h : w.heap[b]? = some (.cells c t (0, 0))) : Upd w w b c t := ⟨rfl, rfl, rfl, rfl, h, fun _ _ => rfl⟩

theorem Upd.trans {w w1 w2 : World} {b : Nat} {c c' : Array Value} {t : TypeId} (h : Upd w w1 b c t) (h' : Upd w1 w2 b c' t) : Upd w w2 b c' t :=
  ⟨h'.os.trans h.os, h'.tape.trans h.tape, h'.output.trans h.output, h'.size.trans h.size, h'.blk, fun k hk => (h'.other k hk).trans (h.other k hk)⟩

theorem cell_blk {w : World} {b o : Nat} {c : Array Value} {t : TypeId} {f : Nat × Nat} (h : w.heap[b]? = some (.cells c t f)) : w.cell? ⟨b, o, none⟩ = c[o]? := by
  simp [World.cell?, h]

theorem frozen_blk {w : World} {b o : Nat} {c : Array Value} {t : TypeId} (h : w.heap[b]? = some (.cells c t (0, 0))) : w.frozen? ⟨b, o, none⟩ = false := by
  simp [World.frozen?, h]

theorem upd_setCell {w : World} {b o : Nat} {c : Array Value} {t : TypeId} (h : w.heap[b]? = some (.cells c t (0, 0))) (v : Value) : Upd w (w.setCell ⟨b, o, none⟩ v) b (c.setIfInBounds o v) t := by
  refine ⟨rfl, rfl, rfl, by simp, ?_, fun k hk => Below.heap_setCell _ _ _ _ hk⟩
  simp [World.setCell, Array.getElem?_modify, h]

section
variable {P : Program} {w : World} {n : Nat} {L : List (Nat × Value)} {ds : Option Tmp} {ty : TypeId} {pos : String} {af : Array Edge} {gu : Option (Nat × Bool)}

theorem run_store1 {b o : Nat} {c : Array Value} {t : TypeId} {v : Value} (hb : w.heap[b]? = some (.cells c t (0, 0))) (ho : o < c.size) (hv : v.oneCell' = true) : (store ⟨b, o, none⟩ v).run P w = .ok () (w.setCell ⟨b, o, none⟩ v) := by
  rw [run_store _ _ _ _ _ hv]
  simp [cell_blk hb, ho, frozen_blk hb]

/-- a cell of a block that is written -/
theorem ok_store1 {x y : Operand} {t T : TypeId} {b o : Nat} {c : Array Value} {v : Value} (hs : (P.info? t).map (·.size) = some 1) (hx : ev L x = some (.pointer (some ⟨b, o, none⟩))) (hy : ev L y = some v) (hv : v.oneCell' = true)
    (hb : w.heap[b]? = some (.cells c T (0, 0))) (ho : o < c.size) : Ok1 P ⟨ds, .store t x y, ty, pos, af, gu⟩ n L w fun _ w' => Upd w w' b (c.setIfInBounds o v) T := by
  obtain ⟨inf, hi, hz⟩ := Option.map_eq_some_iff.1 hs
  have hd : Det P ⟨ds, .store t x y, ty, pos, af, gu⟩ n L w undef (w.setCell ⟨b, o, none⟩ v) := Det.of_skip fun a hF => by
    have hcs : v.cells = #[v] := by cases v <;> simp_all [Value.cells, Value.oneCell']
    simp [execOp, hF.eval hx, hF.eval hy, Instr.storeAt, Instr.sureAddr, storeVar, sizeOf, typeInfo, hi, hz, hcs, storeCells, Addr.add, run_store1 hb ho hv]
  exact hd.mono fun v' w' ⟨_, hw⟩ => by subst hw; exact upd_setCell hb v

theorem run_storeCells {b : Nat} {T : TypeId} : ∀ (vs : List Value) (i : Nat) (w : World) (c : Array Value), w.heap[b]? = some (.cells c T (0, 0)) → i + vs.length ≤ c.size → (∀ v ∈ vs, v.oneCell' = true) →
    ∃ w', (storeCells ⟨b, 0, none⟩ vs i).run P w = .ok () w' ∧ Upd w w' b ((c.toList.take i ++ vs ++ c.toList.drop (i + vs.length)).toArray) T
  | [], i, w, c, hb, hl, hv => by
    refine ⟨w, by simp [storeCells], ?_⟩
    simp
    exact Upd.refl hb
  | v :: vs, i, w, c, hb, hl, hv => by
    simp at hl
    have ha : (⟨b, 0, none⟩ : Addr).add i = ⟨b, i, none⟩ := by
      unfold Addr.add
      split <;> simp_all
    have hu := upd_setCell (o := i) hb v
    obtain ⟨w', h1, h2⟩ := run_storeCells vs (i + 1) (w.setCell ⟨b, i, none⟩ v) _ hu.blk (by simp; omega) fun u hu => hv u (List.mem_cons_of_mem _ hu)
    refine ⟨w', ?_, ?_⟩
    · simp only [storeCells, ha, Sem.run_bind, run_store1 hb (by omega : i < c.size) (hv v (List.mem_cons_self ..)), Result.andThen_ok, h1]
    · have h3 := hu.trans h2
      have he : ((c.setIfInBounds i v).toList.take (i + 1) ++ vs ++ (c.setIfInBounds i v).toList.drop (i + 1 + vs.length)).toArray = (c.toList.take i ++ v :: vs ++ c.toList.drop (i + (v :: vs).length)).toArray := by
        congr 1
        simp only [Array.toList_setIfInBounds, List.length_cons]
        have hlt : i < c.toList.length := by simp only [Array.length_toList]; omega
        rw [take_set' _ _ _ hlt, drop_set' _ _ _ _ (by omega)]
        simp [show i + 1 + vs.length = i + (vs.length + 1) by omega]
      rw [he] at h3
      exact h3

/-- a whole array (a struct) that is written -/
theorem ok_storeA {x y : Operand} {t T : TypeId} {b m : Nat} {c c' : Array Value} (hs : (P.info? t).map (·.size) = some m) (hx : ev L x = some (.pointer (some ⟨b, 0, none⟩))) (hy : ev L y = some (.agg c')) (hc' : c'.size = m) (hv : ∀ v ∈ c'.toList, v.oneCell' = true)
    (hb : w.heap[b]? = some (.cells c T (0, 0))) (hc : c.size = m) : Ok1 P ⟨ds, .store t x y, ty, pos, af, gu⟩ n L w fun _ w' => Upd w w' b c' T := by
  obtain ⟨inf, hi, hz⟩ := Option.map_eq_some_iff.1 hs
  obtain ⟨w', h1, h2⟩ := run_storeCells (P := P) c'.toList 0 w c hb (by simp; omega) hv
  have hd : Det P ⟨ds, .store t x y, ty, pos, af, gu⟩ n L w undef w' := Det.of_skip fun a hF => by
    simp [execOp, hF.eval hx, hF.eval hy, Instr.storeAt, Instr.sureAddr, storeVar, sizeOf, typeInfo, hi, hz, Value.cells, hc', h1]
  refine hd.mono fun v' w'' ⟨_, hw⟩ => ?_
  subst hw
  have he : (c.toList.take 0 ++ c'.toList ++ c.toList.drop (0 + c'.toList.length)).toArray = c' := by
    simp [List.drop_of_length_le (show c.toList.length ≤ c'.size by simp; omega)]
  rw [he] at h2
  exact h2

theorem run_loadCells {b : Nat} {T : TypeId} {c : Array Value} {f : Nat × Nat} (hb : w.heap[b]? = some (.cells c T f)) (o : Nat) : ∀ (m i : Nat) (acc : Array Value), o + i + m ≤ c.size →
    (loadCellsFrom ⟨b, o, none⟩ i m acc).run P w = .ok (acc ++ c.extract (o + i) (o + i + m)) w
  | 0, i, acc, h => by simp [loadCellsFrom]; omega
  | m + 1, i, acc, h => by
    have ha : (⟨b, o, none⟩ : Addr).add i = ⟨b, o + i, none⟩ := by
      unfold Addr.add
      split <;> simp_all
    have hi : o + i < c.size := by omega
    simp only [loadCellsFrom, ha, Sem.run_bind, run_load, cell_blk hb, Array.getElem?_eq_getElem hi, Result.andThen_ok]
    rw [run_loadCells hb o m (i + 1) _ (by omega)]
    congr 1
    apply Array.ext'
    simp only [Array.toList_append, Array.toList_push, Array.toList_extract, List.extract_eq_take_drop, List.append_assoc, List.append_cancel_left_eq]
    rw [show o + (i + 1) = (o + i) + 1 by omega, show (o + i) + 1 + m - ((o + i) + 1) = m by omega, show o + i + (m + 1) - (o + i) = m + 1 by omega]
    rw [List.drop_eq_getElem_cons (i := o + i) (by simpa using hi), List.take_succ_cons]
    simp

/-- a whole array (a struct) that is read -/
theorem d_loadA {x : Operand} {t T : TypeId} {d : TypeDesc} {b m : Nat} {c : Array Value} {f : Nat × Nat} (ht : P.underlying t = some d) (hf : TypeDesc.flat d = false) (hs : (P.info? t).map (·.size) = some m) (hx : ev L x = some (.pointer (some ⟨b, 0, none⟩)))
    (hb : w.heap[b]? = some (.cells c T f)) (hc : c.size = m) : Det P ⟨ds, .load t x, ty, pos, af, gu⟩ n L w (.agg c) w :=
  Det.of_run fun a hF => by
    obtain ⟨inf, hi, hz⟩ := Option.map_eq_some_iff.1 hs
    have hag : (isAgg t).run P w = .ok true w := by
      simp only [isAgg, Sem.run_bind, run_underlying' ht, Result.andThen_ok]
      cases d <;> simp_all [TypeDesc.flat]
    have hl := run_loadCells (P := P) hb 0 m 0 #[] (by omega)
    simp [execOp, hF.eval hx, Instr.loadAt, Instr.sureAddr, loadVar, hag, sizeOf, typeInfo, hi, hz, loadCells, hl]
    subst hc
    simp

theorem ok_box {x : Operand} {t : TypeId} {v : Value} (hx : ev L x = some v) : Ok1 P ⟨ds, .box t x, ty, pos, af, gu⟩ n L w fun v' w' => ∃ b, v' = .pointer (some ⟨b, 0, none⟩) ∧ NewB w w' b v.cells t := by
  have hd : Det P ⟨ds, .box t x, ty, pos, af, gu⟩ n L w (.pointer (some ⟨w.heap.size, 0, none⟩)) (w.alloc (.cells v.cells t)) := Det.of_run fun a hF => by
    simp [execOp, hF.eval hx, Instr.box, newVar, newRow]
  exact hd.mono fun v' w' ⟨h1, h2⟩ => ⟨_, h1, rfl, h2⟩

theorem ok_alloc {t : TypeId} {z : Value} (hz : (P.info? t).bind (·.zero) = some z) : Ok1 P ⟨ds, .alloc t, ty, pos, af, gu⟩ n L w fun v' w' => ∃ b, v' = .pointer (some ⟨b, 0, none⟩) ∧ NewB w w' b z.cells t := by
  obtain ⟨inf, hi, hz'⟩ := Option.bind_eq_some_iff.1 hz
  have hd : Det P ⟨ds, .alloc t, ty, pos, af, gu⟩ n L w (.pointer (some ⟨w.heap.size, 0, none⟩)) (w.alloc (.cells z.cells t)) := Det.of_run fun a hF => by
    simp [execOp, Instr.alloc, zeroValue, typeInfo, hi, hz', newVar, newRow]
  exact hd.mono fun v' w' ⟨h1, h2⟩ => ⟨_, h1, rfl, h2⟩

/-- make of a slice whose elements are of one cell -/
theorem ok_make {x : Operand} {t e : TypeId} {m bytes : Nat} {z : Value} (hT : P.underlying t = some (.slice e)) (hs : (P.info? e).map (fun i => (i.size, i.bytes, i.zero)) = some (1, bytes, some z)) (hx : ev L x = some (.int .i64 m)) (hz : z.oneCell' = true)
    (hm : bytes * m ≤ 2 ^ 48) (hm' : m < 2 ^ 63) : Ok1 P ⟨ds, .makeSlice t x x, ty, pos, af, gu⟩ n L w fun v' w' => ∃ b, v' = .slice (some ⟨b, 0, none⟩) m m ∧ NewB w w' b ((Array.range m).map fun _ => z) e := by
  obtain ⟨inf, hi, hz'⟩ := Option.map_eq_some_iff.1 hs
  simp only [Prod.mk.injEq] at hz'
  obtain ⟨h1, h2, h3⟩ := hz'
  have hzc : z.cells = #[z] := by cases z <;> simp_all [Value.cells, Value.oneCell']
  have hw : IntKind.wrap .i64 (m : Int) = m := by
    have : (m : Int) < 2 ^ 63 := by exact_mod_cast hm'
    exact wrap_i64 (by omega) (by omega)
  have hb : ¬ ((bytes : Int) * (m : Int) > 2 ^ 48) := by
    have : ((bytes * m : Nat) : Int) ≤ 2 ^ 48 := by exact_mod_cast hm
    rw [Int.natCast_mul] at this
    omega
  have hd : Det P ⟨ds, .makeSlice t x x, ty, pos, af, gu⟩ n L w (.slice (some ⟨w.heap.size, 0, none⟩) m m) (w.alloc (.cells ((Array.range m).map fun _ => z) e)) := Det.of_run fun a hF => by
    have hn : ¬ ((m : Int) < 0) := by omega
    have hti : ∀ w, (typeInfo e).run P w = .ok inf w := fun w => by simp [typeInfo, hi]
    simp only [execOp, hF.eval hx, Instr.makeSlice, Sem.run_bind, run_underlying' hT, Result.andThen_ok, asInt, asIntOf, hti, Sem.run_pure, h2, hw, sizeOf]
    have hc1 : (decide ((m : Int) < 0) || decide ((bytes : Int) * (m : Int) > 2 ^ 48)) = false := by simp only [hn, hb, decide_false, Bool.or_false]
    simp only [hc1]
    by_cases h0 : m = 0
    · subst h0
      have hz0 : Array.range 0 = #[] := by apply Array.ext'; simp
      simp [newRow, hti, hz0]
    · have hn' : ¬ ((m : Int) < 0) := by omega
      rw [if_neg (by simp)]
      simp [newRow, zeroValue, hti, h3, hzc, h0, h1, Nat.mod_one]
  exact hd.mono fun v' w' ⟨h1, h2⟩ => ⟨_, h1, rfl, h2⟩

/-- functions that can be called -/
structure Callee (P : Program) (f : FuncId) : Prop where
  ok : ∃ fn, P.funcs[f]? = some fn ∧ (fn.name == "runtime.NumGoroutine") = false ∧ fn.body.isNone = false

/-- how a call ends -/
def Ret (R : Value → World → Prop) : Ending → World → Prop := fun e w' => ∃ v, e = .returned v ∧ R v w'

theorem ok_callv {x : Operand} {xs : Array Operand} {ts : Array TypeId} {f : FuncId} {first captured : Array Value} {vs : List Value} {R : Value → World → Prop} (hx : ev L x = some (.func (.func f) first captured)) (hc : Callee P f) (ha : evs L xs.toList = some vs)
    (h : Calls P f ((first ++ vs.toArray) ++ captured) w (Ret R)) : Ok1 P ⟨ds, .call ⟨.value x, xs, ts⟩, ty, pos, af, gu⟩ n L w R := by
  intro a K Q hF k
  obtain ⟨fn, h1, h2, h3⟩ := hc.ok
  have hxs : xs.map a.eval = vs.toArray := by
    have := hF.evals ha
    rw [← this, ← List.map_toArray]
  simp only [Oper.wp, execOp, resolve, hF.eval hx, Deferred.ofValue, Sem.run_bind, Sem.run_pure, Result.andThen_ok, invoke, callFunc, run_program, h1, h2, h3, hxs]
  simp only [Bool.false_eq_true, if_false, Sem.run_pure, Oper.upon_enter]
  refine h.mono fun e w' he => ?_
  obtain ⟨v, rfl, hr⟩ := he
  exact k v w' hr

theorem ok_call {xs : Array Operand} {ts : Array TypeId} {f : FuncId} {vs : List Value} {R : Value → World → Prop} (hc : Callee P f) (ha : evs L xs.toList = some vs)
    (h : Calls P f vs.toArray w (Ret R)) : Ok1 P ⟨ds, .call ⟨.value (.func f), xs, ts⟩, ty, pos, af, gu⟩ n L w R :=
  ok_callv (first := #[]) (captured := #[]) rfl hc ha (by simpa using h)
end
end Go.Mi
namespace Go.Mi
open Go.RowKit

abbrev Blk := Nat × Array Value × TypeId

/-- below the heap of w0 all is as it was; the blocks of the list hold what it says -/
structure Mem (w0 w : World) (M : List Blk) : Prop where
  below : Below w0.heap.size w0 w
  blk : ∀ e, e ∈ M → w.heap[e.1]? = some (.cells e.2.1 e.2.2 (0, 0))
  new : ∀ e, e ∈ M → w0.heap.size ≤ e.1
  apart : (M.map (·.1)).Nodup

theorem Mem.start (w : World) : Mem w w [] := ⟨Below.refl _ _, by simp, by simp, by simp⟩

theorem Mem.lt {w0 w : World} {M : List Blk} (h : Mem w0 w M) {e : Blk} (he : e ∈ M) : e.1 < w.heap.size := by
  have := h.blk e he
  rcases Nat.lt_or_ge e.1 w.heap.size with h' | h'
  · exact h'
  · simp [Array.getElem?_eq_none h'] at this

theorem Mem.alloc {w0 w w' : World} {M : List Blk} (h : Mem w0 w M) {b : Nat} {c : Array Value} {t : TypeId} (hn : NewB w w' b c t) : Mem w0 w' (M ++ [(b, c, t)]) := by
  obtain ⟨rfl, rfl⟩ := hn
  refine ⟨h.below.alloc (h.below.size) _, fun e he => ?_, fun e he => ?_, ?_⟩
  · rcases List.mem_append.1 he with he | he
    · rw [Below.heap_alloc _ _ _ (h.lt he)]; exact h.blk e he
    · simp at he; subst he; show (w.heap.push _)[w.heap.size]? = _; simp
  · rcases List.mem_append.1 he with he | he
    · exact h.new e he
    · simp at he; subst he; exact h.below.size
  · simp only [List.map_append, List.map_cons, List.map_nil]
    refine List.nodup_append.2 ⟨h.apart, by simp, fun x hx y hy => ?_⟩
    obtain rfl := List.mem_singleton.1 hy
    obtain ⟨e, he, rfl⟩ := List.mem_map.1 hx
    have := h.lt he
    omega

theorem Mem.upd {w0 w w' : World} {M : List Blk} (h : Mem w0 w M) (i : Nat) {b : Nat} {c c' : Array Value} {t : TypeId} (hi : M[i]? = some (b, c, t)) (hu : Upd w w' b c' t) : Mem w0 w' (M.set i (b, c', t)) := by
  have hlt : i < M.length := by
    rcases Nat.lt_or_ge i M.length with h' | h'
    · exact h'
    · simp [List.getElem?_eq_none h'] at hi
  have hmi : M[i] = (b, c, t) := by simpa [List.getElem?_eq_getElem hlt] using hi
  have hmem : (b, c, t) ∈ M := hmi ▸ List.getElem_mem hlt
  have hB := h.new _ hmem
  have hmap : (M.set i (b, c', t)).map (·.1) = M.map (·.1) := by
    rw [List.map_set]
    apply List.ext_getElem?
    intro j
    simp only [List.getElem?_set, List.length_map, List.getElem?_map]
    split
    · rename_i e; subst e; simp [hlt, hmi]
    · rfl
  refine ⟨h.below.trans ⟨hu.os, hu.tape, hu.output, by rw [hu.size]; exact Nat.le_refl _, fun k hk => hu.other k (by simp at hB; omega)⟩, fun e he => ?_, fun e he => ?_, by rw [hmap]; exact h.apart⟩
  · obtain ⟨j, hj, rfl⟩ := List.mem_iff_getElem.1 he
    simp only [List.getElem_set]
    split
    · exact hu.blk
    · rename_i hne
      have hj' : j < M.length := by simpa using hj
      have hd : (M[j]'hj').1 ≠ b := by
        intro heq
        have := h.apart
        rw [List.nodup_iff_pairwise_ne, List.pairwise_iff_getElem] at this
        rcases Nat.lt_or_gt_of_ne hne with h1 | h1
        · have := this i j (by simpa using hlt) (by simpa using hj') h1; simp [hmi] at this; exact this heq.symm
        · have := this j i (by simpa using hj') (by simpa using hlt) h1; simp [hmi] at this; exact this heq
      rw [hu.other _ hd]
      exact h.blk _ (List.getElem_mem _)
  · have : e.1 ∈ (M.set i (b, c', t)).map (·.1) := List.mem_map_of_mem he
    rw [hmap] at this
    obtain ⟨e', he', heq⟩ := List.mem_map.1 this
    have := h.new e' he'
    omega

/-- behind a call that leaves what was there -/
theorem Mem.call {w0 w w' : World} {M : List Blk} (h : Mem w0 w M) (hb : Below w.heap.size w w') : Mem w0 w' M :=
  ⟨h.below.trans (hb.mono h.below.size), fun e he => by rw [hb.block _ (h.lt he)]; exact h.blk e he, h.new, h.apart⟩

theorem Mem.drew {w0 w : World} {M : List Blk} (h : Mem w0 w M) : Mem w0 { w with drawn := w.drawn + 1 } M :=
  ⟨h.below.drew, h.blk, h.new, h.apart⟩

/-- a block that a call has made comes into the list -/
theorem Mem.adopt {w0 w w' : World} {M : List Blk} (h : Mem w0 w M) {b : Nat} {c : Array Value} {t : TypeId} (hb : Below w.heap.size w w') (hn : w.heap.size ≤ b) (hc : w'.heap[b]? = some (.cells c t (0, 0))) : Mem w0 w' (M ++ [(b, c, t)]) := by
  have h' := h.call hb
  refine ⟨h'.below, fun e he => ?_, fun e he => ?_, ?_⟩
  · rcases List.mem_append.1 he with he | he
    · exact h'.blk e he
    · simp at he; subst he; exact hc
  · rcases List.mem_append.1 he with he | he
    · exact h.new e he
    · simp at he; subst he; exact Nat.le_trans h.below.size hn
  · simp only [List.map_append, List.map_cons, List.map_nil]
    refine List.nodup_append.2 ⟨h.apart, by simp, fun x hx y hy => ?_⟩
    obtain rfl := List.mem_singleton.1 hy
    obtain ⟨e, he, rfl⟩ := List.mem_map.1 hx
    have := h.lt he
    omega

theorem Mem.at {w0 w : World} {M : List Blk} (h : Mem w0 w M) (i : Nat) {b : Nat} {c : Array Value} {t : TypeId} (hi : M[i]? = some (b, c, t)) : w.heap[b]? = some (.cells c t (0, 0)) :=
  h.blk _ (List.mem_of_getElem? hi)

theorem Mem.cell {w0 w : World} {M : List Blk} (h : Mem w0 w M) (i : Nat) {b o : Nat} {c : Array Value} {t : TypeId} {v : Value} (hi : M[i]? = some (b, c, t)) (hv : c[o]? = some v) : w.cell? ⟨b, o, none⟩ = some v := by
  rw [cell_blk (h.at i hi), hv]

theorem Mem.old {w0 w : World} {M : List Blk} (h : Mem w0 w M) {ad : Addr} {v : Value} (hv : w0.cell? ad = some v) : w.cell? ad = some v := by
  rw [h.below.cell (World.block_lt_of_cell? w0 ad hv), hv]

theorem Mem.sub {w0 w : World} {M M' : List Blk} (h : Mem w0 w M) (hs : List.Sublist M' M) : Mem w0 w M' :=
  ⟨h.below, fun e he => h.blk e (hs.subset he), fun e he => h.new e (hs.subset he), (hs.map _).nodup h.apart⟩

/-- the memory of the call that made this one -/
theorem Mem.under {w0 w w1 : World} {M M' : List Blk} (h : Mem w0 w M) (h' : Mem w w1 M') : Mem w0 w1 M := h.call h'.below

/-- a row of numbers -/
def cl (k : IntKind) (n : Nat) (F : Nat → Int) : Array Value := ((List.range n).map fun i => Value.int k (F i)).toArray
def upd (F : Nat → Int) (i : Nat) (v : Int) : Nat → Int := fun j => if j = i then v else F j

theorem cl_size (k : IntKind) (n : Nat) (F : Nat → Int) : (cl k n F).size = n := by simp [cl]
theorem cl_get {k : IntKind} {n : Nat} {F : Nat → Int} {i : Nat} (h : i < n) : (cl k n F)[i]? = some (.int k (F i)) := by simp [cl, h]
theorem cl_getz {k : IntKind} {n : Nat} {F : Nat → Int} {i : Nat} (h : i < n) : (cl k n F)[0 + i]? = some (.int k (F i)) := by rw [Nat.zero_add]; exact cl_get h
theorem cl_set (k : IntKind) (n : Nat) (F : Nat → Int) (i : Nat) (v : Int) : (cl k n F).setIfInBounds i (.int k v) = cl k n (upd F i v) := by
  apply Array.ext'
  simp only [cl, Array.toList_setIfInBounds]
  apply List.ext_getElem?
  intro j
  simp only [List.getElem?_set, List.length_map, List.length_range, List.getElem?_map, upd]
  by_cases h : i = j
  · subst h
    by_cases h2 : i < n <;> simp [h2]
  · have h3 : ¬ j = i := fun e => h e.symm
    simp only [h, if_false]
    by_cases h2 : j < n <;> simp [h2, h3]
theorem cl_setz (k : IntKind) (n : Nat) (F : Nat → Int) (i : Nat) (v : Int) : (cl k n F).setIfInBounds (0 + i) (.int k v) = cl k n (upd F i v) := by rw [Nat.zero_add]; exact cl_set k n F i v
theorem cl_congr {k : IntKind} {n : Nat} {F G : Nat → Int} (h : ∀ i, i < n → F i = G i) : cl k n F = cl k n G := by
  unfold cl
  congr 1
  apply List.map_congr_left
  intro i hi
  rw [h i (by simpa using hi)]
theorem cl_one (k : IntKind) (n : Nat) (F : Nat → Int) : ∀ v ∈ (cl k n F).toList, v.oneCell' = true := by
  intro v hv
  simp [cl] at hv
  obtain ⟨i, _, rfl⟩ := hv
  rfl
theorem cl_const (k : IntKind) (n : Nat) (x : Int) : ((Array.range n).map fun _ => Value.int k x) = cl k n fun _ => x := by
  apply Array.ext'
  simp [cl, Array.toList_range]

section
variable {P : Program} {ops : Array Oper} {Q : Exit → Act → World → Prop} {a : Act} {w : World} {n : Nat} {L : List (Nat × Value)}

/-- a loop with a number that every round lowers -/
theorem wp_loop_k {c : Code} (I : Nat → Act → World → Prop) (k0 : Nat) (h0 : I k0 a w)
    (round : ∀ k a w, I k a w → c.wp P (Exit.then (fun a' w' => ∃ k', k' < k ∧ I k' a' w') Q) a w) : (Code.loop c).wp P Q a w := by
  intro b k cs
  have key : ∀ m a w, I m a w → ∃ e a' w', Q e a' w' ∧ Arrives P (lone (b.at a (.code c :: .inLoop c :: k)) cs w) b k cs e a' w' := by
    intro m
    induction m using Nat.strongRecOn with
    | _ m ih =>
      intro a w hI
      obtain ⟨e, a₁, w₁, hq, harr⟩ := round m a w hI b (.inLoop c :: k) cs
      cases e with
      | normal =>
        obtain ⟨m', hlt, hI'⟩ := hq
        obtain ⟨e₂, a₂, w₂, hq₂, harr₂⟩ := ih m' hlt a₁ w₁ hI'
        exact ⟨e₂, a₂, w₂, hq₂, .of_steps (Steps.trans harr (.one step_inLoop)) harr₂⟩
      | exit id => exact ⟨_, a₁, w₁, hq, .pass (x := .inLoop c) rfl (fun _ _ => .inl (by simp)) harr⟩
      | goto l => exact ⟨_, a₁, w₁, hq, .pass (x := .inLoop c) rfl (fun _ _ => .inl (by simp)) harr⟩
      | ret => exact ⟨_, a₁, w₁, hq, .pass (x := .inLoop c) rfl (fun _ _ => .inl (by simp)) harr⟩
      | panic ch => exact ⟨_, a₁, w₁, hq, .pass (x := .inLoop c) rfl (fun _ _ => .inl (by simp)) harr⟩
      | outgrown => exact ⟨_, a₁, w₁, hq, .pass (x := .inLoop c) rfl (fun _ _ => .inl (by simp)) harr⟩
  obtain ⟨e, a', w', hq, harr⟩ := key k0 a w h0
  exact ⟨e, a', w', hq, .of_steps (.one step_loop) harr⟩

theorem wp_if {c : Operand} {x y : Code} {t : Bool} (hF : Frm a n L) (hc : ev L c = some (.bool t)) (ht : t = true → x.wp P Q a w) (hf : t = false → y.wp P Q a w) : (Code.cond c x y).wp P Q a w :=
  wp_cond_split (hF.eval hc) ht hf

theorem wp_seq_n {x y : Code} (h : x.wp P (Exit.then (y.wp P Q) Q) a w) : (Code.seq x y).wp P Q a w := wp_seq h

/-- a function's body -/
theorem calls_of {f : FuncId} {fn : Func} {c : Code} {vs : List Value} {R : Ending → World → Prop} {n : Nat} (hf : P.funcs[f]? = some fn) (hb : fn.body = some c) (hn : fn.ntmps = n) (hl : Nat.ble vs.length n = true)
    (h : ∀ a, Frm a n (vs.zipIdx.map fun p => (p.2, p.1)) → c.wp P (bodyPost P fn R) a w) : Calls P f vs.toArray w R :=
  calls_of_wp hf hb (h _ (by subst hn; exact Frm.enter (by simpa [Nat.ble_eq] using hl)))

/-- a result variable's value -/
def rv (tmps : Array Value) : ResultVar → Sem Value
  | .tmp t => pure (tmps.getD t undef)
  | .cell x t => do loadVar t (← asAddr (tmps.getD x undef))

theorem results_eq (fn : Func) (tmps : Array Value) : results fn tmps = (do
    let vs ← fn.results.mapM (rv tmps)
    pure (if h : vs.size = 1 then vs[0] else .tuple vs)) := by
  have : (fun (r : ResultVar) => (match r with | .tmp t => pure (tmps.getD t undef) | .cell a t => do loadVar t (← asAddr (tmps.getD a undef)) : Sem Value)) = rv tmps := by
    funext r
    cases r <;> rfl
  unfold results
  rw [← this]
  rfl

def RV (P : Program) (a : Act) (w : World) (r : ResultVar) (v : Value) : Prop := (rv a.tmps r).run P w = .ok v w

theorem RV.tmp {t : Tmp} {v : Value} (hF : Frm a n L) (hv : lk L t = some v) : RV P a w (.tmp t) v := by
  have := hF.get t v hv
  simp only [RV, rv, this, Sem.run_pure]

theorem RV.cell1 {x : Tmp} {t : TypeId} {d : TypeDesc} {ad : Addr} {v : Value} (ht : P.underlying t = some d) (hf : TypeDesc.flat d = true) (hF : Frm a n L) (hx : lk L x = some (.pointer (some ad))) (hc : w.cell? ad = some v) : RV P a w (.cell x t) v := by
  have := hF.get x _ hx
  simp only [RV, rv, this, asAddr, Sem.run_bind, Sem.run_pure, Result.andThen_ok, loadVar, run_isAgg_flat ht hf]
  simp [hc]

theorem RV.cellA {x : Tmp} {t T : TypeId} {d : TypeDesc} {b m : Nat} {c : Array Value} {f : Nat × Nat} (ht : P.underlying t = some d) (hf : TypeDesc.flat d = false) (hs : (P.info? t).map (·.size) = some m) (hF : Frm a n L) (hx : lk L x = some (.pointer (some ⟨b, 0, none⟩)))
    (hb : w.heap[b]? = some (.cells c T f)) (hc : c.size = m) : RV P a w (.cell x t) (.agg c) := by
  have hx' := hF.get x _ hx
  obtain ⟨inf, hi, hz⟩ := Option.map_eq_some_iff.1 hs
  have hag : (isAgg t).run P w = .ok true w := by
    simp only [isAgg, Sem.run_bind, run_underlying' ht, Result.andThen_ok]
    cases d <;> simp_all [TypeDesc.flat]
  have hl := run_loadCells (P := P) hb 0 m 0 #[] (by omega)
  simp only [RV, rv, hx', asAddr, loadVar, Sem.run_bind, Sem.run_pure, Result.andThen_ok, hag]
  simp [sizeOf, typeInfo, hi, hz, loadCells, hl]
  subst hc
  simp

theorem results1 {fn : Func} {r : ResultVar} {v : Value} (h : fn.results = #[r]) (h1 : RV P a w r v) : (results fn a.tmps).run P w = .ok v w := by
  unfold RV at h1
  rw [results_eq, h]
  simp [h1]

theorem results2 {fn : Func} {r s : ResultVar} {v u : Value} (h : fn.results = #[r, s]) (h1 : RV P a w r v) (h2 : RV P a w s u) : (results fn a.tmps).run P w = .ok (.tuple #[v, u]) w := by
  unfold RV at h1 h2
  rw [results_eq, h]
  simp [h1, h2]

theorem results3 {fn : Func} {r s t : ResultVar} {v u x : Value} (h : fn.results = #[r, s, t]) (h1 : RV P a w r v) (h2 : RV P a w s u) (h3 : RV P a w t x) : (results fn a.tmps).run P w = .ok (.tuple #[v, u, x]) w := by
  unfold RV at h1 h2 h3
  rw [results_eq, h]
  simp [h1, h2, h3]

/-- the end of a body -/
theorem body_ret {fn : Func} {R : Value → World → Prop} {v : Value} (hF : Frm a n L) (hr : (results fn a.tmps).run P w = .ok v w) (h : R v w) : bodyPost P fn (Ret R) .ret a w :=
  ⟨hF.defers, v, hr, v, rfl, h⟩
theorem body_end {fn : Func} {R : Value → World → Prop} {v : Value} (hF : Frm a n L) (hr : (results fn a.tmps).run P w = .ok v w) (h : R v w) : bodyPost P fn (Ret R) .normal a w :=
  ⟨hF.defers, v, hr, v, rfl, h⟩
end
end Go.Mi
namespace Go.Mi
open Go.RowKit

/-- all that was there is as it was -/
abbrev Gr (w w' : World) : Prop := Below w.heap.size w w'
theorem Gr.refl (w : World) : Gr w w := Below.refl _ _
theorem Gr.trans {a b c : World} (h : Gr a b) (k : Gr b c) : Gr a c := Below.trans h (k.mono h.size)

/-- what an operation yields: a value, or something of which a lasting fact is known -/
inductive PS (G : World → World → Prop) where
  | val (v : Value)
  | rel (F : Value → World → Prop) (st : ∀ v w w', F v w → G w w' → F v w')
section
variable {G : World → World → Prop}
def PS.holds : PS G → Value → World → Prop
  | .val x, v, _ => v = x
  | .rel F _, v, w => F v w
def PS.entry : PS G → Value → Value
  | .val x, _ => x
  | .rel _ _, v => v
theorem PS.holds_mono {s : PS G} {v : Value} {w w' : World} (h : s.holds v w) (g : G w w') : s.holds v w' := by
  cases s with
  | val x => exact h
  | rel F st => exact st v w w' h g
theorem PS.entry_eq {s : PS G} {v : Value} {w : World} (h : s.holds v w) : s.entry v = v := by
  cases s with
  | val x => exact h.symm
  | rel F st => rfl
end

/-- of one operation: the operations that it builds on; the slots of before that it reads; behind how many stores it may come; what it yields -/
structure Row (G : World → World → Prop) where
  us : List (Nat × Nat)
  zs : List (Nat × Value)
  ph : List Nat
  out : PS G

def memN (i : Nat) : List Nat → Bool
  | [] => false
  | x :: r => bif Nat.beq i x then true else memN i r

/-- masks of all operations that go ahead, for each -/
def befs : List Oper → List Nat → List Nat
  | [], acc => acc
  | o :: r, acc => befs r (acc ++ [o.after.toList.foldl (fun s e => if Region.binds .any e then s ||| 2 ^ e.on ||| acc.getD e.on 0 else s) 0])

inductive Ahead (l : List Oper) : Nat → Nat → Prop where
  | edge {i : Nat} {o : Oper} {e : Edge} : l[i]? = some o → e ∈ o.after.toList → Region.binds .any e = true → Ahead l i e.on
  | trans {i j k : Nat} : Ahead l i j → Ahead l j k → Ahead l i k

theorem befs_ok (l : List Oper) : ∀ (r : List Oper) (acc : List Nat), (∀ j o, r[j]? = some o → l[acc.length + j]? = some o) → (∀ i j, (acc.getD i 0).testBit j = true → Ahead l i j) →
    ∀ i j, ((befs r acc).getD i 0).testBit j = true → Ahead l i j
  | [], acc, _, h => h
  | o :: r, acc, hl, h => by
    have ho : l[acc.length]? = some o := by simpa using hl 0 o (by simp)
    refine befs_ok l r _ (fun j o' hj => by simpa [Nat.add_assoc, Nat.add_comm 1 j] using hl (j + 1) o' (by simpa using hj)) ?_
    intro i j hb
    by_cases hi : i < acc.length
    · rw [List.getD_eq_getElem?_getD, List.getElem?_append_left hi] at hb
      exact h i j (by rwa [List.getD_eq_getElem?_getD])
    · by_cases hi' : i = acc.length
      · subst hi'
        simp only [List.getD_eq_getElem?_getD, List.getElem?_append_right (Nat.le_refl _), Nat.sub_self, List.getElem?_cons_zero, Option.getD_some] at hb
        have key : ∀ (es : List Edge) (s : Nat), (∀ e ∈ es, e ∈ o.after.toList) → (∀ j, s.testBit j = true → Ahead l acc.length j) →
            ∀ j, (es.foldl (fun s e => if Region.binds .any e then s ||| 2 ^ e.on ||| acc[e.on]?.getD 0 else s) s).testBit j = true → Ahead l acc.length j := by
          intro es
          induction es with
          | nil => intro s _ hs; exact hs
          | cons e es ih =>
            intro s hes hs
            simp only [List.foldl_cons]
            refine ih _ (fun e' he' => hes e' (List.mem_cons_of_mem _ he')) ?_
            intro j hj
            split at hj
            · rename_i hbd
              have hedge : Ahead l acc.length e.on := .edge ho (hes e (List.mem_cons_self ..)) hbd
              simp only [Nat.testBit_or, Bool.or_eq_true] at hj
              rcases hj with (hj | hj) | hj
              · exact hs j hj
              · rw [Nat.testBit_two_pow] at hj
                have : e.on = j := by simpa using hj
                exact this ▸ hedge
              · exact .trans hedge (h e.on j (by rwa [List.getD_eq_getElem?_getD]))
            · exact hs j hj
        exact key _ 0 (fun e he => he) (by simp) j hb
      · have : (acc ++ [o.after.toList.foldl (fun s e => if Region.binds .any e then s ||| 2 ^ e.on ||| acc.getD e.on 0 else s) 0]).getD i 0 = 0 := by
          rw [List.getD_eq_getElem?_getD, List.getElem?_eq_none (by simp; omega)]; rfl
        rw [this] at hb
        simp at hb

section
variable {G : World → World → Prop}
/-- can operation i come when just p of the stores are done? -/
def mayAt (B : List Nat) (ss : List Nat) (i p : Nat) : Bool :=
  ss.zipIdx.all fun q => bif Nat.blt q.2 p then !(B.getD q.1 0).testBit i && !(Nat.beq q.1 i) else !(B.getD i 0).testBit q.1
/-- the checks by computing: edges go back; slots are each written once, and lie in the frame; what is used goes ahead; what is read of before is written later, if at all; the stores have an order -/
def okRow (l : List Oper) (B : List Nat) (ss : List Nat) (i : Nat) (o : Oper) (r : Row G) : Bool :=
  r.us.all (fun p => (B.getD i 0).testBit p.1 && (match l[p.1]? with | some o' => o'.dst == some p.2 | none => false)) &&
  r.zs.all (fun p => l.zipIdx.all fun q => q.1.dst != some p.1 || q.2 == i || (B.getD q.2 0).testBit i) &&
  (match o.guard with | none => true | some (j, _) => r.us.any fun p => p.1 == j) &&
  (List.range (ss.length + 1)).all (fun p => !mayAt B ss i p || memN p r.ph)
def okRows (l : List Oper) (B : List Nat) (ss : List Nat) : Nat → List Oper → List (Row G) → Bool
  | _, [], [] => true
  | i, o :: os, r :: rs => okRow l B ss i o r && okRows l B ss (i + 1) os rs
  | _, _, _ => false
def okAll (n : Nat) (ss : List Nat) (l : List Oper) (rows : List (Row G)) : Bool :=
  let B := befs l []
  (l.zipIdx.all fun q => q.1.after.toList.all fun e => !(Region.binds .any e) || Nat.blt e.on q.2) &&
  (l.all fun o => match o.dst with | some d => Nat.blt d n | none => true) &&
  (l.zipIdx.all fun q => l.zipIdx.all fun q' => q.2 == q'.2 || q.1.dst == none || q.1.dst != q'.1.dst) &&
  (ss.zipIdx.all fun q => Nat.blt q.1 l.length && ss.zipIdx.all fun q' => !(Nat.blt q.2 q'.2) || (B.getD q'.1 0).testBit q.1) &&
  okRows l B ss 0 l rows

/-- the frame of one operation -/
def Row.fr (rows : List (Row G)) (r : Row G) (vs : Nat → Value) : List (Nat × Value) :=
  r.us.map (fun p => (p.2, ((rows[p.1]?).map (·.out.entry (vs p.1))).getD (vs p.1))) ++ r.zs

/-- what is to be shown of one operation -/
def Ob (P : Program) (n : Nat) (Wd : Nat → World → Prop) (ss : List Nat) (L0 : List (Nat × Value)) (rows : List (Row G)) (i : Nat) (o : Oper) (r : Row G) : Prop :=
  subL L0 r.zs ∧ ∀ (p : Nat), memN p r.ph = true → ∀ (vs : Nat → Value) (w : World), Wd p w → (∀ u ∈ r.us, ∀ r', rows[u.1]? = some r' → r'.out.holds (vs u.1) w) →
    match o.guard with
    | none => Ok1 P o n (r.fr rows vs) w fun v w' => Wd (bif memN i ss then p + 1 else p) w' ∧ G w w' ∧ r.out.holds v w'
    | some (j, b) => ∃ c rj, rows[j]? = some rj ∧ rj.out = .val (.bool c) ∧ (if c = b then Ok1 P o n (r.fr rows vs) w fun v w' => Wd (bif memN i ss then p + 1 else p) w' ∧ G w w' ∧ r.out.holds v w' else memN i ss = false ∧ r.out.holds undef w)

def Obs (P : Program) (n : Nat) (Wd : Nat → World → Prop) (ss : List Nat) (L0 : List (Nat × Value)) (rows : List (Row G)) : Nat → List Oper → List (Row G) → Prop
  | i, o :: os, r :: rs => Ob P n Wd ss L0 rows i o r ∧ Obs P n Wd ss L0 rows (i + 1) os rs
  | _, _, _ => True

variable {P : Program} {n : Nat} {Wd : Nat → World → Prop} {ss : List Nat} {L0 : List (Nat × Value)} {rows : List (Row G)}

theorem Obs.at : ∀ {os : List Oper} {rs : List (Row G)} {k : Nat}, Obs P n Wd ss L0 rows k os rs → ∀ (i : Nat) (o : Oper) (r : Row G), os[i]? = some o → rs[i]? = some r → Ob P n Wd ss L0 rows (k + i) o r
  | o :: os, r :: rs, k, h, 0, o', r', h1, h2 => by simp at h1 h2; subst h1; subst h2; exact h.1
  | o :: os, r :: rs, k, h, i + 1, o', r', h1, h2 => by
    have := Obs.at h.2 i o' r' (by simpa using h1) (by simpa using h2)
    rwa [show k + 1 + i = k + (i + 1) by omega] at this
  | [], rs, _, _, i, o', r', h1, _ => by simp at h1
  | _ :: _, [], _, _, i, o', r', _, h2 => by simp at h2

theorem okRows.at {l : List Oper} {B : List Nat} : ∀ {os : List Oper} {rs : List (Row G)} {k : Nat}, okRows l B ss k os rs = true → ∀ (i : Nat) (o : Oper) (r : Row G), os[i]? = some o → rs[i]? = some r → okRow l B ss (k + i) o r = true
  | o :: os, r :: rs, k, h, 0, o', r', h1, h2 => by simp at h1 h2; subst h1; subst h2; simp [okRows] at h; exact h.1
  | o :: os, r :: rs, k, h, i + 1, o', r', h1, h2 => by
    simp only [okRows, Bool.and_eq_true] at h
    have := okRows.at h.2 i o' r' (by simpa using h1) (by simpa using h2)
    rwa [show k + 1 + i = k + (i + 1) by omega] at this
  | [], rs, _, _, i, o', r', h1, _ => by simp at h1
  | _ :: _, [], _, _, i, o', r', _, h2 => by simp at h2

theorem okRows.len {l : List Oper} {B : List Nat} : ∀ {os : List Oper} {rs : List (Row G)} {k : Nat}, okRows l B ss k os rs = true → rs.length = os.length
  | o :: os, r :: rs, k, h => by
    simp only [okRows, Bool.and_eq_true] at h
    simp [okRows.len h.2]
  | [], [], _, _ => rfl
  | [], _ :: _, _, h => by simp [okRows] at h
  | _ :: _, [], _, h => by simp [okRows] at h

/-- the state in the middle of a region -/
structure PInv (l : List Oper) (n : Nat) (Wd : Nat → World → Prop) (ss : List Nat) (L0 : List (Nat × Value)) (rows : List (Row G)) (listed : Array Bool) (p : Nat) (a : Act) (w : World) : Prop where
  size : listed.size = l.length
  closed : ∀ i o, l[i]? = some o → listed.getD i false = true → ∀ e ∈ o.after.toList, Region.binds .any e = true → listed.getD e.on false = true
  ple : p ≤ ss.length
  phase : ∀ k s, ss[k]? = some s → (listed.getD s false = true ↔ k < p)
  frame : a.tmps.size = n
  defers : a.defers = []
  wd : Wd p w
  done : ∀ i o r d, l[i]? = some o → rows[i]? = some r → listed.getD i false = true → o.dst = some d → r.out.holds (a.tmps.getD d undef) w
  rest : ∀ s v, lk L0 s = some v → (∀ i o, l[i]? = some o → o.dst = some s → listed.getD i false = false) → a.tmps.getD s undef = v

variable {l : List Oper} {listed : Array Bool} {p : Nat} {a : Act} {w : World}

theorem PInv.ahead (h : PInv l n Wd ss L0 rows listed p a w) {i j : Nat} (ha : Ahead l i j) : listed.getD i false = true → listed.getD j false = true := by
  induction ha with
  | edge h1 h2 h3 => exact fun hi => h.closed _ _ h1 hi _ h2 h3
  | trans _ _ ih1 ih2 => exact fun hi => ih2 (ih1 hi)

theorem ready_ahead (h : PInv l n Wd ss L0 rows listed p a w) {i : Nat} (hr : i ∈ Region.ready .any l.toArray listed) {j : Nat} (ha : Ahead l i j) : listed.getD j false = true := by
  simp only [Region.ready, List.mem_filter, List.mem_range, Bool.and_eq_true] at hr
  obtain ⟨hi, _, hall⟩ := hr
  have direct : ∀ (o : Oper) (e : Edge), l[i]? = some o → e ∈ o.after.toList → Region.binds .any e = true → listed.getD e.on false = true := by
    intro o e ho he hb
    simp only [List.getElem?_toArray, ho, Option.map_some, Option.getD_some, Array.all_eq_true'] at hall
    have := hall e (by simpa using he)
    simpa [hb] using this
  have key : ∀ i' j', Ahead l i' j' → i' = i → listed.getD j' false = true := by
    intro i' j' ha'
    induction ha' with
    | edge h1 h2 h3 => intro e; subst e; exact direct _ _ h1 h2 h3
    | trans h1 h2 ih1 ih2 => exact fun e => h.ahead h2 (ih1 e)
  exact key i j ha rfl
end
end Go.Mi
namespace Go.Mi
open Go.RowKit

theorem lk_mem : ∀ {L : List (Nat × Value)} {t : Nat} {v : Value}, lk L t = some v → (t, v) ∈ L
  | (s, u) :: r, t, v, h => by
    simp only [lk] at h
    by_cases e : s = t
    · subst e; simp at h; subst h; exact List.mem_cons_self ..
    · rw [beqf e] at h; exact List.mem_cons_of_mem _ (lk_mem h)
  | [], t, v, h => by simp [lk] at h

theorem subL_mem {L : List (Nat × Value)} : ∀ {zs : List (Nat × Value)}, subL L zs → ∀ p ∈ zs, lk L p.1 = some p.2
  | (s, u) :: r, h, p, hp => by
    rcases List.mem_cons.1 hp with rfl | hp
    · exact h.1
    · exact subL_mem h.2 p hp
  | [], _, p, hp => by simp at hp

theorem memN_iff {i : Nat} : ∀ {l : List Nat}, memN i l = true ↔ i ∈ l
  | [] => by simp [memN]
  | x :: r => by
    simp only [memN]
    by_cases e : i = x
    · subst e; simp
    · rw [beqf e]; simp [e, memN_iff (l := r)]

section
variable {G : World → World → Prop}

structure OkAll (n : Nat) (ss : List Nat) (l : List Oper) (rows : List (Row G)) : Prop where
  back : ∀ (i : Nat) (o : Oper), l[i]? = some o → ∀ e ∈ o.after.toList, Region.binds .any e = true → e.on < i
  slot : ∀ (i : Nat) (o : Oper) (d : Nat), l[i]? = some o → o.dst = some d → d < n
  once : ∀ (i j : Nat) (o o' : Oper), l[i]? = some o → l[j]? = some o' → i ≠ j → o.dst ≠ none → o.dst ≠ o'.dst
  inn : ∀ (k s : Nat), ss[k]? = some s → s < l.length
  chain : ∀ (k k' s s' : Nat), ss[k]? = some s → ss[k']? = some s' → k < k' → Ahead l s' s
  len : rows.length = l.length
  row : ∀ (i : Nat) (o : Oper) (r : Row G), l[i]? = some o → rows[i]? = some r →
    (∀ p ∈ r.us, Ahead l i p.1 ∧ ∃ o', l[p.1]? = some o' ∧ o'.dst = some p.2) ∧
    (∀ p ∈ r.zs, ∀ (j : Nat) (o' : Oper), l[j]? = some o' → o'.dst = some p.1 → j = i ∨ Ahead l j i) ∧
    (∀ j b, o.guard = some (j, b) → ∃ p ∈ r.us, p.1 = j) ∧
    (∀ p, p ≤ ss.length → memN p r.ph = true ∨ ∃ k s, ss[k]? = some s ∧ ((k < p ∧ (Ahead l s i ∨ s = i)) ∨ (p ≤ k ∧ Ahead l i s)))

theorem mem_zipIdx' {α : Type} {l : List α} {i : Nat} {o : α} (h : l[i]? = some o) : (o, i) ∈ l.zipIdx := by
  rw [List.mem_iff_getElem?]
  exact ⟨i, by simp [List.getElem?_zipIdx, h]⟩

theorem of_zipIdx {α : Type} {l : List α} {q : α × Nat} (h : q ∈ l.zipIdx) : l[q.2]? = some q.1 := by
  obtain ⟨i, hi⟩ := List.mem_iff_getElem?.1 h
  simp only [List.getElem?_zipIdx, Option.map_eq_some_iff] at hi
  obtain ⟨x, hx, rfl⟩ := hi
  simpa using hx

theorem blt_iff {a b : Nat} : Nat.blt a b = true ↔ a < b := by rw [Nat.blt_eq]

theorem OkAll.of {n : Nat} {ss : List Nat} {l : List Oper} {rows : List (Row G)} (h : okAll n ss l rows = true) : OkAll n ss l rows := by
  have hB := befs_ok l l [] (fun j o hj => by simpa using hj) (by simp)
  simp only [okAll, Bool.and_eq_true, List.all_eq_true, Bool.or_eq_true] at h
  obtain ⟨⟨⟨⟨h1, h2⟩, h3⟩, h4⟩, h7⟩ := h
  refine ⟨?_, ?_, ?_, ?_, ?_, okRows.len h7, ?_⟩
  · intro i o ho e he hb
    rcases h1 (o, i) (mem_zipIdx' ho) e he with h | h
    · rw [hb] at h; simp at h
    · exact blt_iff.1 h
  · intro i o d ho hd
    have := h2 o (List.mem_of_getElem? ho)
    rw [hd] at this
    exact blt_iff.1 this
  · intro i j o o' hi hj hne hn
    have := h3 (o, i) (mem_zipIdx' hi) (o', j) (mem_zipIdx' hj)
    rcases this with (h | h) | h
    · exact absurd (by simpa using h) hne
    · exact absurd (by simpa using h) hn
    · simpa using h
  · intro k s hk
    exact blt_iff.1 (h4 (s, k) (mem_zipIdx' hk)).1
  · intro k k' s s' hk hk' hlt
    rcases (h4 (s, k) (mem_zipIdx' hk)).2 (s', k') (mem_zipIdx' hk') with h | h
    · rw [(blt_iff.2 hlt : Nat.blt k k' = true)] at h; simp at h
    · exact hB _ _ h
  · intro i o r hi hr
    have := okRows.at h7 i o r hi hr
    simp only [Nat.zero_add, okRow, Bool.and_eq_true, List.all_eq_true, Bool.or_eq_true] at this
    obtain ⟨⟨⟨g1, g2⟩, g3⟩, g4⟩ := this
    refine ⟨fun p hp => ?_, fun p hp j o' hj hd => ?_, fun j b hg => ?_, fun p hp => ?_⟩
    · obtain ⟨b1, b2⟩ := g1 p hp
      refine ⟨hB _ _ b1, ?_⟩
      cases ho' : l[p.1]? with
      | none => rw [ho'] at b2; simp at b2
      | some o' => rw [ho'] at b2; exact ⟨o', rfl, by simpa using b2⟩
    · rcases g2 p hp (o', j) (mem_zipIdx' hj) with (h | h) | h
      · simp [hd] at h
      · exact .inl (by simpa using h)
      · exact .inr (hB _ _ h)
    · rw [hg] at g3
      simp only [List.any_eq_true] at g3
      obtain ⟨p, hp, he⟩ := g3
      exact ⟨p, hp, by simpa using he⟩
    · rcases g4 p (by simp; omega) with h | h
      · right
        simp only [mayAt, Bool.not_eq_true', List.all_eq_false] at h
        obtain ⟨q, hq, hb⟩ := h
        refine ⟨q.2, q.1, of_zipIdx hq, ?_⟩
        by_cases hlt : q.2 < p
        · left
          rw [(blt_iff.2 hlt : Nat.blt q.2 p = true)] at hb
          simp only [cond_true, Bool.not_eq_true, Bool.and_eq_false_iff, Bool.not_eq_false'] at hb
          refine ⟨hlt, ?_⟩
          rcases hb with hb | hb
          · exact .inl (hB _ _ hb)
          · exact .inr (Nat.eq_of_beq_eq_true hb)
        · right
          have hf : Nat.blt q.2 p = false := by
            cases hc : Nat.blt q.2 p with
            | false => rfl
            | true => exact absurd (blt_iff.1 hc) hlt
          rw [hf] at hb
          simp only [cond_false, Bool.not_eq_true, Bool.not_eq_false'] at hb
          exact ⟨by omega, hB _ _ hb⟩
      · exact .inl h

variable {P : Program} {n : Nat} {Wd : Nat → World → Prop} {ss : List Nat} {L0 : List (Nat × Value)} {l : List Oper} {rows : List (Row G)} {Q : Exit → Act → World → Prop} {listed : Array Bool} {p : Nat} {a : Act} {w : World}

theorem getD_set {listed : Array Bool} {i j : Nat} (hi : i < listed.size) : (listed.setIfInBounds i true).getD j false = if j = i then true else listed.getD j false := by
  by_cases h : j = i
  · subst h
    simp [hi]
  · have : ¬ i = j := fun e => h e.symm
    simp [Array.getElem?_setIfInBounds_ne this, h]

theorem ready_lt {ops : Array Oper} {i : Nat} (h : i ∈ Region.ready .any ops listed) : i < ops.size ∧ listed.getD i true = false := by
  simp only [Region.ready, List.mem_filter, List.mem_range, Bool.and_eq_true] at h
  exact ⟨h.1, by simpa using h.2.1⟩

theorem ready_edges {i : Nat} {o : Oper} (ho : l[i]? = some o) (h : i ∈ Region.ready .any l.toArray listed) : ∀ e ∈ o.after.toList, Region.binds .any e = true → listed.getD e.on false = true := by
  simp only [Region.ready, List.mem_filter, List.mem_range, Bool.and_eq_true] at h
  obtain ⟨_, _, hall⟩ := h
  simp only [List.getElem?_toArray, ho, Option.map_some, Option.getD_some, Array.all_eq_true'] at hall
  intro e he hb
  have := hall e (by simpa using he)
  simpa [hb] using this

theorem plan_step (ok : OkAll n ss l rows) (hobs : Obs P n Wd ss L0 rows 0 l rows) (h : PInv l n Wd ss L0 rows listed p a w) {i : Nat} (hr : i ∈ Region.ready .any l.toArray listed) :
    wpOp P l.toArray Q i (fun a' w' => ∃ p', PInv l n Wd ss L0 rows (listed.setIfInBounds i true) p' a' w') a w := by
  obtain ⟨hil, hnl⟩ := ready_lt hr
  have hil' : i < l.length := by simpa using hil
  have hnl' : listed.getD i false = false := by
    have : i < listed.size := by rw [h.size]; exact hil'
    simpa [this] using hnl
  obtain ⟨o, ho⟩ : ∃ o, l[i]? = some o := ⟨_, List.getElem?_eq_getElem hil'⟩
  obtain ⟨r, hrow⟩ : ∃ r, rows[i]? = some r := ⟨_, List.getElem?_eq_getElem (by rw [ok.len]; exact hil')⟩
  obtain ⟨hus, hzs, hgd, hph⟩ := ok.row i o r ho hrow
  have hphase : memN p r.ph = true := by
    rcases hph p h.ple with h' | ⟨k, s, hk, h' | h'⟩
    · exact h'
    · obtain ⟨hkp, h'⟩ := h'
      have hs := (h.phase k s hk).2 hkp
      rcases h' with h' | h'
      · have := h.ahead h' hs; rw [hnl'] at this; simp at this
      · rw [h', hnl'] at hs; simp at hs
    · obtain ⟨hkp, h'⟩ := h'
      have hs := (h.phase k s hk).1 (ready_ahead h hr h')
      omega
  obtain ⟨hsub, hob0⟩ := hobs.at i o r ho hrow
  rw [Nat.zero_add] at hob0
  have hob := hob0 p hphase
  let vs : Nat → Value := fun j => a.tmps.getD (((l[j]?).bind (·.dst)).getD 0) undef
  have hvs : ∀ u ∈ r.us, vs u.1 = a.tmps.getD u.2 undef ∧ listed.getD u.1 false = true := by
    intro u hu
    obtain ⟨ha, o', ho', hd'⟩ := hus u hu
    exact ⟨by simp [vs, ho', hd'], ready_ahead h hr ha⟩
  have hholds : ∀ u ∈ r.us, ∀ r', rows[u.1]? = some r' → r'.out.holds (vs u.1) w := by
    intro u hu r' hr'
    obtain ⟨ha, o', ho', hd'⟩ := hus u hu
    rw [(hvs u hu).1]
    exact h.done u.1 o' r' u.2 ho' hr' (hvs u hu).2 hd'
  have hF : Frm a n (r.fr rows vs) := by
    refine ⟨h.frame, h.defers, fun t v hv => ?_⟩
    have hm := lk_mem hv
    simp only [Row.fr, List.mem_append, List.mem_map, Prod.mk.injEq] at hm
    rcases hm with ⟨u, hu, rfl, rfl⟩ | hm
    · obtain ⟨_, o', ho', _⟩ := hus u hu
      obtain ⟨r', hr'⟩ : ∃ r', rows[u.1]? = some r' := by
        refine ⟨_, List.getElem?_eq_getElem ?_⟩
        rw [ok.len]
        rcases Nat.lt_or_ge u.1 l.length with h' | h'
        · exact h'
        · simp [List.getElem?_eq_none h'] at ho'
      simp only [hr', Option.map_some, Option.getD_some]
      rw [PS.entry_eq (hholds u hu r' hr'), (hvs u hu).1]
    · refine h.rest t v (subL_mem hsub _ hm) fun j o' hj hd => ?_
      rcases hzs _ hm j o' hj hd with rfl | ha
      · exact hnl'
      · cases hlj : listed.getD j false with
        | false => rfl
        | true =>
          have := h.ahead ha hlj
          rw [hnl'] at this
          simp at this
  have hsz : i < listed.size := by rw [h.size]; exact hil'
  have hget : ∀ j, (listed.setIfInBounds i true).getD j false = if j = i then true else listed.getD j false := fun j => getD_set hsz
  -- the phase behind
  have hph2 : (bif memN i ss then p + 1 else p) ≤ ss.length ∧ ∀ k s, ss[k]? = some s → ((listed.setIfInBounds i true).getD s false = true ↔ k < (bif memN i ss then p + 1 else p)) := by
    have uniq : ∀ k k' : Nat, ss[k]? = some i → ss[k']? = some i → k = k' := by
      intro k k' hk hk'
      rcases Nat.lt_trichotomy k k' with hlt | he | hgt
      · have := ready_ahead h hr (ok.chain k k' i i hk hk' hlt); rw [hnl'] at this; simp at this
      · exact he
      · have := ready_ahead h hr (ok.chain k' k i i hk' hk hgt); rw [hnl'] at this; simp at this
    cases hmem : memN i ss with
    | false =>
      simp only [cond_false]
      refine ⟨h.ple, fun k s hk => ?_⟩
      have hne : s ≠ i := fun e => by
        have : i ∈ ss := by subst e; exact List.mem_of_getElem? hk
        rw [memN_iff.2 this] at hmem
        simp at hmem
      rw [hget, if_neg hne]
      exact h.phase k s hk
    | true =>
      simp only [cond_true]
      obtain ⟨k0, hk0⟩ := List.mem_iff_getElem?.1 (memN_iff.1 hmem)
      have hk0l : k0 < ss.length := by
        rcases Nat.lt_or_ge k0 ss.length with h' | h'
        · exact h'
        · simp [List.getElem?_eq_none h'] at hk0
      have h1 : ¬ k0 < p := fun hlt => by
        have := (h.phase k0 i hk0).2 hlt; rw [hnl'] at this; simp at this
      have h2 : ∀ k, k < k0 → k < p := by
        intro k hk
        obtain ⟨s, hs⟩ : ∃ s, ss[k]? = some s := ⟨_, List.getElem?_eq_getElem (by omega)⟩
        exact (h.phase k s hs).1 (ready_ahead h hr (ok.chain k k0 s i hs hk0 hk))
      have hpk : p = k0 := by
        have := h.ple
        rcases Nat.lt_trichotomy p k0 with hlt | he | hgt
        · have := h2 p hlt; omega
        · exact he
        · omega
      refine ⟨by omega, fun k s hk => ?_⟩
      rw [hget]
      by_cases hsi : s = i
      · subst hsi
        have := uniq k k0 hk hk0
        rw [if_pos rfl]
        simp
        omega
      · rw [if_neg hsi, h.phase k s hk]
        have hne : k ≠ k0 := fun e => by subst e; rw [hk0] at hk; exact hsi (by simpa using hk.symm)
        omega
  have hfin : ∀ v w', Wd (bif memN i ss then p + 1 else p) w' → G w w' → r.out.holds v w' → ∃ p', PInv l n Wd ss L0 rows (listed.setIfInBounds i true) p' (a.put o.dst v) w' := by
    intro v w' hwd hg hv
    refine ⟨_, by simp [h.size], ?_, hph2.1, hph2.2, ?_, ?_, hwd, ?_, ?_⟩
    · intro j o' hj hlj e he hb
      rw [hget] at hlj ⊢
      split
      · rfl
      · split at hlj
        · rename_i hji
          subst hji
          rw [ho] at hj
          cases hj
          exact ready_edges ho hr e he hb
        · exact h.closed j o' hj hlj e he hb
    · cases hd : o.dst <;> simp [Act.put, h.frame]
    · cases hd : o.dst <;> simp [Act.put, h.defers]
    · intro j o' r' d hj hrj hlj hd
      rw [hget] at hlj
      by_cases hji : j = i
      · subst hji
        rw [ho] at hj
        cases hj
        rw [hrow] at hrj
        cases hrj
        have hdn := ok.slot _ _ _ ho hd
        simp only [hd, Act.put]
        simpa [h.frame, hdn] using hv
      · rw [if_neg hji] at hlj
        have hold := h.done j o' r' d hj hrj hlj hd
        have hne : o.dst ≠ some d := fun e => ok.once i j o o' ho hj (fun x => hji x.symm) (by rw [e]; simp) (by rw [e, hd])
        have : (a.put o.dst v).tmps.getD d undef = a.tmps.getD d undef := by
          cases hod : o.dst with
          | none => rfl
          | some d' =>
            have : d' ≠ d := fun e => hne (by rw [hod, e])
            simp [Act.put, Array.getElem?_setIfInBounds_ne this]
        rw [this]
        exact PS.holds_mono hold hg
    · intro s u hs hno
      have hne : o.dst ≠ some s := fun e => by
        have := hno i o ho e
        rw [hget, if_pos rfl] at this
        simp at this
      have : (a.put o.dst v).tmps.getD s undef = a.tmps.getD s undef := by
        cases hod : o.dst with
        | none => rfl
        | some d' =>
          have : d' ≠ s := fun e => hne (by rw [hod, e])
          simp [Act.put, Array.getElem?_setIfInBounds_ne this]
      rw [this]
      refine h.rest s u hs fun j o' hj hd => ?_
      have := hno j o' hj hd
      rw [hget] at this
      split at this
      · simp at this
      · exact this
  have hob' := hob vs w h.wd hholds
  unfold wpOp
  simp only [List.getElem?_toArray, ho]
  cases hgu : o.guard with
  | none =>
    rw [hgu] at hob'
    rw [if_pos (by simp [Region.wanted, hgu])]
    exact .inl (hob' a _ Q hF fun v w' ⟨hw, hg, hv⟩ => hfin v w' hw hg hv)
  | some jb =>
    obtain ⟨j, b⟩ := jb
    rw [hgu] at hob'
    obtain ⟨c, rj, hrj, hout, hx⟩ := hob'
    obtain ⟨u, hu, huj⟩ := hgd j b hgu
    obtain ⟨ha, o', ho', hd'⟩ := hus u hu
    have hval : a.tmps.getD u.2 undef = .bool c := by
      have := hholds u hu rj (by rw [huj]; exact hrj)
      rw [hout, (hvs u hu).1] at this
      exact this
    have hy : yielded l.toArray a.tmps j = some c := by
      subst huj
      have hlt := ok.slot _ _ _ ho' hd'
      have hlt' : u.2 < a.tmps.size := by rw [h.frame]; exact hlt
      have hv2 : a.tmps[u.2]? = some (.bool c) := by
        rw [Array.getElem?_eq_getElem hlt']
        congr 1
        simpa [hlt'] using hval
      simp [yielded, ho', hd', hv2]
    by_cases hcb : c = b
    · subst hcb
      simp only [if_true] at hx
      rw [if_pos (by simp [Region.wanted, hgu, hy])]
      exact .inl (hx a _ Q hF fun v w' ⟨hw, hg, hv⟩ => hfin v w' hw hg hv)
    · rw [if_neg hcb] at hx
      rw [if_neg (by simp [Region.wanted, hgu, hy, hcb])]
      have hwd : Wd (bif memN i ss then p + 1 else p) w := by rw [hx.1]; exact h.wd
      -- nothing happens: the old facts stand as they stood
      refine ⟨_, by simp [h.size], ?_, hph2.1, hph2.2, ?_, ?_, hwd, ?_, ?_⟩
      · intro j o' hj hlj e he hb
        rw [hget] at hlj ⊢
        split
        · rfl
        · split at hlj
          · rename_i hji
            subst hji
            rw [ho] at hj
            cases hj
            exact ready_edges ho hr e he hb
          · exact h.closed j o' hj hlj e he hb
      · cases hd : o.dst <;> simp [Act.put, h.frame]
      · cases hd : o.dst <;> simp [Act.put, h.defers]
      · intro j o' r' d hj hrj hlj hd
        rw [hget] at hlj
        by_cases hji : j = i
        · subst hji
          rw [ho] at hj
          cases hj
          rw [hrow] at hrj
          cases hrj
          have hdn := ok.slot _ _ _ ho hd
          simp only [hd, Act.put]
          simpa [h.frame, hdn] using hx.2
        · rw [if_neg hji] at hlj
          have hold := h.done j o' r' d hj hrj hlj hd
          have hne : o.dst ≠ some d := fun e => ok.once i j o o' ho hj (fun x => hji x.symm) (by rw [e]; simp) (by rw [e, hd])
          have : (a.put o.dst undef).tmps.getD d undef = a.tmps.getD d undef := by
            cases hod : o.dst with
            | none => rfl
            | some d' =>
              have : d' ≠ d := fun e => hne (by rw [hod, e])
              simp [Act.put, Array.getElem?_setIfInBounds_ne this]
          rw [this]
          exact hold
      · intro s u hs hno
        have hne : o.dst ≠ some s := fun e => by
          have := hno i o ho e
          rw [hget, if_pos rfl] at this
          simp at this
        have : (a.put o.dst undef).tmps.getD s undef = a.tmps.getD s undef := by
          cases hod : o.dst with
          | none => rfl
          | some d' =>
            have : d' ≠ s := fun e => hne (by rw [hod, e])
            simp [Act.put, Array.getElem?_setIfInBounds_ne this]
        rw [this]
        refine h.rest s u hs fun j o' hj hd => ?_
        have := hno j o' hj hd
        rw [hget] at this
        split at this
        · simp at this
        · exact this

def left (m : Nat) (listed : Array Bool) : Nat := (List.range m).countP fun i => !listed.getD i false

theorem left_set {m i : Nat} (hi : i < listed.size) (him : i < m) (hf : listed.getD i false = false) : left m (listed.setIfInBounds i true) + 1 = left m listed := by
  unfold left
  have key : ∀ (xs : List Nat), xs.Nodup → i ∈ xs → (xs.countP fun j => !(listed.setIfInBounds i true).getD j false) + 1 = xs.countP fun j => !listed.getD j false := by
    intro xs
    induction xs with
    | nil => intro _ h; simp at h
    | cons x xs ih =>
      intro hn hx
      rw [List.nodup_cons] at hn
      by_cases hxi : x = i
      · subst hxi
        have hno : ∀ j ∈ xs, j ≠ x := fun j hj e => hn.1 (e ▸ hj)
        have : (xs.countP fun j => !(listed.setIfInBounds x true).getD j false) = xs.countP fun j => !listed.getD j false := by
          apply List.countP_congr
          intro j hj
          rw [getD_set hi, if_neg (hno j hj)]
        rw [List.countP_cons, List.countP_cons, this, getD_set hi, if_pos rfl, hf]
        simp
      · have hix : i ∈ xs := by
          rcases List.mem_cons.1 hx with e | e
          · exact absurd e.symm hxi
          · exact e
        have := ih hn.2 hix
        rw [List.countP_cons, List.countP_cons, getD_set hi, if_neg hxi]
        omega
  exact key _ List.nodup_range (by simpa using him)

/-- what is known when all is done -/
structure Done (l : List Oper) (n : Nat) (Wd : Nat → World → Prop) (ss : List Nat) (L0 : List (Nat × Value)) (rows : List (Row G)) (a : Act) (w : World) : Prop where
  frame : a.tmps.size = n
  defers : a.defers = []
  wd : Wd ss.length w
  done : ∀ (i : Nat) (o : Oper) (r : Row G) (d : Nat), l[i]? = some o → rows[i]? = some r → o.dst = some d → r.out.holds (a.tmps.getD d undef) w
  rest : ∀ s v, lk L0 s = some v → (∀ (i : Nat) (o : Oper), l[i]? = some o → o.dst ≠ some s) → a.tmps.getD s undef = v

theorem plan_main (ok : OkAll n ss l rows) (hobs : Obs P n Wd ss L0 rows 0 l rows)
    (hend : ∀ a w, Done l n Wd ss L0 rows a w → Q .normal a w) :
    ∀ (fuel : Nat) (listed : Array Bool) (p : Nat) (a : Act) (w : World), PInv l n Wd ss L0 rows listed p a w → left l.length listed ≤ fuel → wpAny P .any l.toArray Q fuel listed a w := by
  have whenAll : ∀ (listed : Array Bool) (p : Nat) (a : Act) (w : World), PInv l n Wd ss L0 rows listed p a w → (∀ i, i < l.length → listed.getD i false = true) → Q .normal a w := by
    intro listed p a w h hall
    have hp : p = ss.length := by
      rcases Nat.lt_or_ge p ss.length with hlt | hge
      · obtain ⟨s, hs⟩ : ∃ s, ss[p]? = some s := ⟨_, List.getElem?_eq_getElem hlt⟩
        have := (h.phase p s hs).1 (hall s (ok.inn p s hs))
        omega
      · have := h.ple; omega
    subst hp
    refine hend a w ⟨h.frame, h.defers, h.wd, fun i o r d ho hr hd => ?_, fun s v hs hno => ?_⟩
    · refine h.done i o r d ho hr (hall i ?_) hd
      rcases Nat.lt_or_ge i l.length with h' | h'
      · exact h'
      · simp [List.getElem?_eq_none h'] at ho
    · exact h.rest s v hs fun i o ho hd => absurd hd (hno i o ho)
  have hready : ∀ (listed : Array Bool) (p : Nat) (a : Act) (w : World), PInv l n Wd ss L0 rows listed p a w → Region.ready .any l.toArray listed = [] → ∀ i, i < l.length → listed.getD i false = true := by
    intro listed p a w h hnil i0 hi0
    have : ∀ k i, i ≤ k → i < l.length → listed.getD i false = false → False := by
      intro k
      induction k with
      | zero =>
        intro i hik hil hif
        have hi0 : i = 0 := by omega
        subst hi0
        have ho : l[0]? = some l[0] := List.getElem?_eq_getElem hil
        have hmem : 0 ∈ Region.ready .any l.toArray listed := by
          simp only [Region.ready, List.mem_filter, List.mem_range, Bool.and_eq_true]
          refine ⟨by simpa using hil, ?_, ?_⟩
          · have : 0 < listed.size := by rw [h.size]; exact hil
            simpa [this] using hif
          · simp only [List.getElem?_toArray, ho, Option.map_some, Option.getD_some, Array.all_eq_true']
            intro e he
            cases hbd : Region.binds .any e with
            | false => simp
            | true => have := ok.back 0 _ ho e (by simpa using he) hbd; omega
        rw [hnil] at hmem
        simp at hmem
      | succ k ihk =>
        intro i hik hil hif
        by_cases hlow : ∃ j, j < i ∧ listed.getD j false = false
        · obtain ⟨j, hj, hjf⟩ := hlow
          exact ihk j (by omega) (by omega) hjf
        · have ho : l[i]? = some l[i] := List.getElem?_eq_getElem hil
          have hmem : i ∈ Region.ready .any l.toArray listed := by
            simp only [Region.ready, List.mem_filter, List.mem_range, Bool.and_eq_true]
            refine ⟨by simpa using hil, ?_, ?_⟩
            · have : i < listed.size := by rw [h.size]; exact hil
              simpa [this] using hif
            · simp only [List.getElem?_toArray, ho, Option.map_some, Option.getD_some, Array.all_eq_true']
              intro e he
              cases hbd : Region.binds .any e with
              | false => simp
              | true =>
                have hlt := ok.back i _ ho e (by simpa using he) hbd
                cases hb : listed.getD e.on false with
                | true => simp
                | false => exact absurd ⟨e.on, hlt, hb⟩ hlow
          rw [hnil] at hmem
          simp at hmem
    cases hb : listed.getD i0 false with
    | true => rfl
    | false => exact (this i0 i0 (Nat.le_refl _) hi0 hb).elim
  intro fuel
  induction fuel with
  | zero =>
    intro listed p a w h hf
    have hall : ∀ i, i < l.length → listed.getD i false = true := by
      intro i hi
      have h0 : left l.length listed = 0 := by omega
      unfold left at h0
      rw [List.countP_eq_zero] at h0
      simpa using h0 i (by simpa using hi)
    refine ⟨?_, whenAll listed p a w h hall⟩
    unfold Region.ready
    rw [List.filter_eq_nil_iff]
    intro i hi
    have hi' : i < l.length := by simpa using hi
    have h1 := hall i hi'
    have h2 : i < listed.size := by rw [h.size]; exact hi'
    have h3 : listed.getD i true = true := by simpa [h2] using h1
    rw [h3]
    simp
  | succ fuel ih =>
    intro listed p a w h hf
    refine ⟨fun hnil => whenAll listed p a w h (hready listed p a w h hnil), fun i hi => ?_⟩
    refine wpOp_mono (fun a' w' h' => ?_) (plan_step (Q := Q) ok hobs h hi)
    obtain ⟨p', h'⟩ := h'
    refine ih _ p' a' w' h' ?_
    have hlt : i < l.length := by simpa using (ready_lt hi).1
    have hsz : i < listed.size := by rw [h.size]; exact hlt
    have hf' : listed.getD i false = false := by
      have := (ready_lt hi).2
      simpa [hsz] using this
    have := left_set hsz hlt hf'
    omega
end
end Go.Mi
namespace Go.Mi
open Go.RowKit

section
variable {G : World → World → Prop} {P : Program} {n : Nat} {Wd : Nat → World → Prop} {ss : List Nat} {L0 : List (Nat × Value)} {l : List Oper} {rows : List (Row G)} {Q : Exit → Act → World → Prop} {listed : Array Bool} {a : Act} {w w' : World}

/-- what the head has yielded -/
def outL (vs : Nat → Value) : Nat → List Oper → List (Row G) → List (Nat × Value)
  | i, o :: os, r :: rs => match o.dst with
    | some d => (d, r.out.entry (vs i)) :: outL vs (i + 1) os rs
    | none => outL vs (i + 1) os rs
  | _, _, _ => []

theorem lk_append {A B : List (Nat × Value)} {t : Nat} : lk (A ++ B) t = match lk A t with | some v => some v | none => lk B t := by
  induction A with
  | nil => simp [lk]
  | cons x A ih =>
    obtain ⟨s, v⟩ := x
    simp only [List.cons_append, lk]
    by_cases e : s = t
    · subst e; simp
    · rw [beqf e]; simpa using ih

theorem lk_outL {vs : Nat → Value} {t : Nat} {v : Value} : ∀ {os : List Oper} {rs : List (Row G)} {k : Nat}, lk (outL vs k os rs) t = some v →
    ∃ (i : Nat) (o : Oper) (r : Row G), os[i]? = some o ∧ rs[i]? = some r ∧ o.dst = some t ∧ v = r.out.entry (vs (k + i))
  | o :: os, r :: rs, k, h => by
    simp only [outL] at h
    cases hd : o.dst with
    | none =>
      rw [hd] at h
      obtain ⟨i, o', r', h1, h2, h3, h4⟩ := lk_outL h
      exact ⟨i + 1, o', r', by simpa using h1, by simpa using h2, h3, by rw [h4, show k + 1 + i = k + (i + 1) by omega]⟩
    | some d =>
      rw [hd] at h
      simp only [lk] at h
      by_cases e : d = t
      · subst e
        simp at h
        exact ⟨0, o, r, by simp, by simp, hd, h.symm⟩
      · rw [beqf e] at h
        obtain ⟨i, o', r', h1, h2, h3, h4⟩ := lk_outL h
        exact ⟨i + 1, o', r', by simpa using h1, by simpa using h2, h3, by rw [h4, show k + 1 + i = k + (i + 1) by omega]⟩
  | [], rs, k, h => by simp [outL, lk] at h
  | _ :: _, [], k, h => by simp [outL, lk] at h

theorem lk_outL_none {vs : Nat → Value} {t : Nat} : ∀ {os : List Oper} {rs : List (Row G)} {k : Nat}, lk (outL vs k os rs) t = none → ∀ (i : Nat) (o : Oper), i < rs.length → os[i]? = some o → o.dst ≠ some t
  | o :: os, r :: rs, k, h, i, o', hi, ho => by
    simp only [outL] at h
    cases i with
    | zero =>
      simp at ho
      subst ho
      intro hd
      rw [hd] at h
      simp [lk] at h
    | succ i =>
      have h' : lk (outL vs (k + 1) os rs) t = none := by
        cases hd : o.dst with
        | none => rw [hd] at h; exact h
        | some d =>
          rw [hd] at h
          simp only [lk] at h
          by_cases e : d = t
          · subst e; simp at h
          · rw [beqf e] at h; exact h
      exact lk_outL_none h' i o' (by simpa using hi) (by simpa using ho)
  | [], rs, k, h, i, o', hi, ho => by simp at ho
  | _ :: _, [], k, h, i, o', hi, ho => by simp at hi

theorem Done.frm (ok : OkAll n ss l rows) (h : Done l n Wd ss L0 rows a w) : ∃ vs : Nat → Value, (∀ (i : Nat) (o : Oper) (r : Row G), l[i]? = some o → rows[i]? = some r → o.dst ≠ none → r.out.holds (vs i) w) ∧ Frm a n (outL vs 0 l rows ++ L0) := by
  let vs : Nat → Value := fun j => a.tmps.getD (((l[j]?).bind (·.dst)).getD 0) undef
  have hv : ∀ (i : Nat) (o : Oper) (r : Row G), l[i]? = some o → rows[i]? = some r → o.dst ≠ none → r.out.holds (vs i) w := by
    intro i o r ho hr hd
    cases hd' : o.dst with
    | none => exact absurd hd' hd
    | some d =>
      have := h.done i o r d ho hr hd'
      simpa [vs, ho, hd'] using this
  refine ⟨vs, hv, h.frame, h.defers, fun t v ht => ?_⟩
  rw [lk_append] at ht
  cases ho : lk (outL vs 0 l rows) t with
  | some u =>
    rw [ho] at ht
    simp at ht
    subst ht
    obtain ⟨i, o, r, h1, h2, h3, h4⟩ := lk_outL ho
    rw [Nat.zero_add] at h4
    have := hv i o r h1 h2 (by rw [h3]; simp)
    rw [h4, PS.entry_eq this]
    simp [vs, h1, h3]
  | none =>
    rw [ho] at ht
    refine h.rest t v ht fun i o hio => ?_
    have hi : i < l.length := by
      rcases Nat.lt_or_ge i l.length with h' | h'
      · exact h'
      · simp [List.getElem?_eq_none h'] at hio
    exact lk_outL_none ho i o (by rw [ok.len]; exact hi) hio

/-- the rule -/
theorem region_plan (G : World → World → Prop) {rows : List (Row G)} {id : Nat} (hm : P.follows .mixedOrders = true) (Wd : Nat → World → Prop) (ss : List Nat) (hok : okAll n ss l rows = true) (hF : Frm a n L0) (h0 : Wd 0 { w with drawn := w.drawn + 1 })
    (hobs : Obs P n Wd ss L0 rows 0 l rows)
    (hend : ∀ a' w' vs, Wd ss.length w' → (∀ (i : Nat) (o : Oper) (r : Row G), l[i]? = some o → rows[i]? = some r → o.dst ≠ none → r.out.holds (vs i) w') → Frm a' n (outL vs 0 l rows ++ L0) → Q .normal a' w') :
    (Code.region id l.toArray true).wp P Q a w := by
  have ok := OkAll.of hok
  refine wp_region_any hm ?_
  refine plan_main ok hobs (fun a' w' hd => ?_) _ _ 0 _ _ ?_ ?_
  · obtain ⟨vs, h1, h2⟩ := hd.frm ok
    exact hend a' w' vs hd.wd h1 h2
  · have h0' : ∀ j, (Array.replicate l.toArray.size false).getD j false = false := by
      intro j
      simp only [Array.getD_eq_getD_getElem?, Array.getElem?_replicate]
      split <;> rfl
    refine ⟨by simp, fun i o _ h => ?_, by omega, fun k s _ => ?_, hF.size, hF.defers, h0, fun i o r d _ _ h => ?_, fun s v hs _ => hF.get s v hs⟩
    · rw [h0'] at h; simp at h
    · rw [h0']; simp
    · rw [h0'] at h; simp at h
  · unfold left
    have := List.countP_le_length (l := List.range l.length) (p := fun i => !(Array.replicate l.toArray.size false).getD i false)
    simpa using this

/-- the plainest evolution: nothing is asked -/
abbrev Tt : World → World → Prop := fun _ _ => True

variable {o : Oper} {L : List (Nat × Value)} {v : Value} {A : World → Prop}
theorem Det.ob (hW : A w) (h : Det P o n L w v w) : Ok1 P o n L w fun v' w' => A w' ∧ Tt w w' ∧ (PS.val (G := Tt) v).holds v' w' :=
  h.mono fun _ _ ⟨h1, h2⟩ => ⟨h2 ▸ hW, trivial, h1⟩
theorem Ok1.obc (hW : ∀ w', Gr w w' → A w') (h : Ok1 P o n L w fun v' w' => v' = v ∧ Gr w w') : Ok1 P o n L w fun v' w' => A w' ∧ Tt w w' ∧ (PS.val (G := Tt) v).holds v' w' :=
  h.mono fun _ _ ⟨h1, h2⟩ => ⟨hW _ h2, trivial, h1⟩
theorem Ok1.obs {R : World → Prop} (hW : ∀ w', R w' → A w') (h : Ok1 P o n L w fun _ w' => R w') : Ok1 P o n L w fun v' w' => A w' ∧ Tt w w' ∧ (PS.rel (G := Tt) (fun _ _ => True) (fun _ _ _ _ _ => trivial)).holds v' w' :=
  h.mono fun _ _ h2 => ⟨hW _ h2, trivial, trivial⟩
end
end Go.Mi
namespace Go.Mi
open Go.RowKit
section
variable {P : Program} {n : Nat} {w w' w1 : World} {Q : Exit → Act → World → Prop} {K M : Act → World → Prop} {a : Act} {L : List (Nat × Value)} {v : Value} {o : Oper}

theorem memN_one {p x : Nat} (h : memN p [x] = true) : p = x := by
  have := memN_iff.1 h
  simpa using this

theorem then_n (h : K a w) : Exit.then K Q .normal a w := h
theorem then_exit {id : Nat} (h : Q (.exit id) a w) : Exit.then K Q (.exit id) a w := h
theorem then_ret (h : Q .ret a w) : Exit.then K Q .ret a w := h
theorem block_n {id : Nat} (h : Q .normal a w) : Exit.inBlock id Q .normal a w := h
theorem block_ret {id : Nat} (h : Q .ret a w) : Exit.inBlock id Q .ret a w := h
theorem block_exit {id : Nat} (h : Q .normal a w) : Exit.inBlock id Q (.exit id) a w := by simp only [Exit.inBlock, if_true]; exact h
theorem block_exit_ne {id id' : Nat} (hn : id' ≠ id) (h : Q (.exit id') a w) : Exit.inBlock id Q (.exit id') a w := by simp only [Exit.inBlock, hn, if_false]; exact h

theorem wp_join {x : Code} (M : Act → World → Prop) (h1 : x.wp P (Exit.then M Q) a w) (h2 : ∀ a w, M a w → K a w) : x.wp P (Exit.then K Q) a w :=
  Code.wp_mono (fun e a w q => by cases e <;> first | exact h2 _ _ q | exact q) h1

theorem wl0R {ops : Array Oper} {rest : List Oper} {op : Op} {ty : TypeId} {pos : String} {af : Array Edge} {R : World → Prop} (h : Ok1 P ⟨none, op, ty, pos, af, none⟩ n L w fun _ w' => R w') (hF : Frm a n L)
    (k : ∀ w' a', R w' → Frm a' n L → wpList P ops Q rest a' w') : wpList P ops Q (⟨none, op, ty, pos, af, none⟩ :: rest) a w :=
  wl_step h rfl hF fun _ w' hr => k w' _ hr (hF.put_none _)

section
variable {ds : Option Tmp} {ty : TypeId} {pos : String} {af : Array Edge} {gu : Option (Nat × Bool)}
theorem d_ixA0 {x y : Operand} {k : IntKind} {T e : TypeId} {len b j : Nat} {i : Int} (hT : P.underlying T = some (.array len e)) (hs : (P.info? e).map (·.size) = some 1) (hx : ev L x = some (.pointer (some ⟨b, 0, none⟩))) (hy : ev L y = some (.int k i))
    (hj : i = (j : Int)) (h1 : j < len) : Det P ⟨ds, .indexAddr T x y, ty, pos, af, gu⟩ n L w (.pointer (some ⟨b, j, none⟩)) w := by
  subst hj
  have := d_ixArr (w := w) (n := n) (ds := ds) (ty := ty) (pos := pos) (af := af) (gu := gu) hT hs hx hy (by omega) (by omega)
  simpa using this
theorem d_ixS0 {x y : Operand} {k : IntKind} {T e : TypeId} {len cap b j : Nat} {i : Int} (hT : P.underlying T = some (.slice e)) (hs : (P.info? e).map (·.size) = some 1) (hx : ev L x = some (.slice (some ⟨b, 0, none⟩) len cap)) (hy : ev L y = some (.int k i))
    (hj : i = (j : Int)) (h1 : j < len) : Det P ⟨ds, .indexAddr T x y, ty, pos, af, gu⟩ n L w (.pointer (some ⟨b, j, none⟩)) w := by
  subst hj
  have := d_ixSl (w := w) (n := n) (ds := ds) (ty := ty) (pos := pos) (af := af) (gu := gu) hT hs hx hy (by omega) (by omega)
  simpa using this
theorem d_ixS {x y : Operand} {k : IntKind} {T e : TypeId} {len cap b o j : Nat} {i : Int} (hT : P.underlying T = some (.slice e)) (hs : (P.info? e).map (·.size) = some 1) (hx : ev L x = some (.slice (some ⟨b, o, none⟩) len cap)) (hy : ev L y = some (.int k i))
    (hj : i = (j : Int)) (h1 : j < len) : Det P ⟨ds, .indexAddr T x y, ty, pos, af, gu⟩ n L w (.pointer (some ⟨b, o + j, none⟩)) w := by
  subst hj
  have := d_ixSl (w := w) (n := n) (ds := ds) (ty := ty) (pos := pos) (af := af) (gu := gu) hT hs hx hy (by omega) (by omega)
  simpa using this
theorem d_indexN {x y : Operand} {k : IntKind} {T e : TypeId} {d : TypeDesc} {len j : Nat} {cs : Array Value} {i : Int} (hT : P.underlying T = some (.array len e)) (he : P.underlying e = some d) (hf : TypeDesc.flat d = true) (hs : (P.info? e).map (·.size) = some 1)
    (hx : ev L x = some (.agg cs)) (hy : ev L y = some (.int k i)) (hj : i = (j : Int)) (h1 : j < len) (hv : cs[j]? = some v) : Det P ⟨ds, .index T x y, ty, pos, af, gu⟩ n L w v w := by
  subst hj
  exact d_index hT he hf hs hx hy (by omega) (by omega) (by simpa using hv)
theorem ok_makeN {x : Operand} {t e : TypeId} {m bytes : Nat} {i : Int} {z : Value} (hT : P.underlying t = some (.slice e)) (hs : (P.info? e).map (fun i => (i.size, i.bytes, i.zero)) = some (1, bytes, some z)) (hx : ev L x = some (.int .i64 i)) (hi : i = (m : Int)) (hz : z.oneCell' = true)
    (hm : bytes * m ≤ 2 ^ 48 ∧ m < 2 ^ 63) : Ok1 P ⟨ds, .makeSlice t x x, ty, pos, af, gu⟩ n L w fun v' w' => ∃ b, v' = .slice (some ⟨b, 0, none⟩) m m ∧ NewB w w' b ((Array.range m).map fun _ => z) e := by
  subst hi
  exact ok_make hT hs hx hz hm.1 hm.2
end

theorem quo_i64 {p q : Int} (h : 0 ≤ p) (hq : 0 ≤ q) (h' : p ≤ 9223372036854775807) : IntKind.wrap .i64 (p.tdiv q) = p / q := by
  rw [tdiv_pos h]
  have h1 : 0 ≤ p / q := Int.ediv_nonneg h hq
  have h2 : p / q ≤ p := Int.ediv_le_self _ h
  exact wrap_i64 (by omega) (by omega)
theorem quo_u32 {p q : Int} (h : 0 ≤ p) (hq : 0 ≤ q) (h' : p ≤ 4294967295) : IntKind.wrap .u32 (p.tdiv q) = p / q := by
  rw [tdiv_pos h]
  have h1 : 0 ≤ p / q := Int.ediv_nonneg h hq
  have h2 : p / q ≤ p := Int.ediv_le_self _ h
  exact wrap_u32 h1 (by omega)
theorem quo_u16 {p q : Int} (h : 0 ≤ p) (hq : 0 ≤ q) (h' : p ≤ 65535) : IntKind.wrap .u16 (p.tdiv q) = p / q := by
  rw [tdiv_pos h]
  have h1 : 0 ≤ p / q := Int.ediv_nonneg h hq
  have h2 : p / q ≤ p := Int.ediv_le_self _ h
  exact wrap_u16 h1 (by omega)

theorem upd_same {F : Nat → Int} {i : Nat} {v : Int} : upd F i v i = v := by simp [upd]
theorem upd_ne {F : Nat → Int} {i j : Nat} {v : Int} (h : j ≠ i) : upd F i v j = F j := by simp [upd, h]
theorem upd_comm {F : Nat → Int} {i j : Nat} {u v : Int} (h : i ≠ j) : upd (upd F i u) j v = upd (upd F j v) i u := by
  funext k
  simp only [upd]
  by_cases h1 : k = j <;> by_cases h2 : k = i <;> simp_all
end
end Go.Mi
namespace Go.Mi
theorem memN_or {p x : Nat} {r : List Nat} (h : memN p (x :: r) = true) : p = x ∨ memN p r = true := by
  rcases List.mem_cons.1 (memN_iff.1 h) with h | h
  · exact .inl h
  · exact .inr (memN_iff.2 h)
theorem d_bool {P : Program} {o : Oper} {n : Nat} {L : List (Nat × Value)} {w : World} {b c : Bool} (h : Det P o n L w (.bool b) w) (e : b = c) : Det P o n L w (.bool c) w := e ▸ h
theorem d_val {P : Program} {o : Oper} {n : Nat} {L : List (Nat × Value)} {w w2 : World} {k : IntKind} {x y : Int} (h : Det P o n L w (.int k x) w2) (e : x = y) : Det P o n L w (.int k y) w2 := e ▸ h
theorem round_neg {k n : Int} (hn : 0 < n) (h : k.tmod n < 0) : k.tmod n + n = k % n := by
  rw [Int.tmod_eq_emod] at h ⊢
  have h1 := Int.emod_nonneg k (show n ≠ 0 by omega)
  have h2 := Int.emod_lt_of_pos k hn
  split at h <;> rename_i hc
  · omega
  · rw [if_neg hc]; omega
theorem round_pos {k n : Int} (hn : 0 < n) (h : ¬ k.tmod n < 0) : k.tmod n = k % n := by
  rw [Int.tmod_eq_emod] at h ⊢
  have h1 := Int.emod_nonneg k (show n ≠ 0 by omega)
  have h2 := Int.emod_lt_of_pos k hn
  split at h <;> rename_i hc
  · rw [if_pos hc]; omega
  · omega
theorem tmod_b {k n : Int} (hn : 0 < n) : - n < k.tmod n ∧ k.tmod n < n := by
  rw [Int.tmod_eq_emod]
  have h1 := Int.emod_nonneg k (show n ≠ 0 by omega)
  have h2 := Int.emod_lt_of_pos k hn
  split
  · omega
  · rename_i hc
    have : k % n ≠ 0 := fun e => hc (.inr (Int.dvd_of_emod_eq_zero e))
    omega
end Go.Mi
namespace Go.Mi
theorem Mem.ge {w0 w : World} {M : List Blk} (h : Mem w0 w M) (i : Nat) {b : Nat} {c : Array Value} {t : TypeId} (hi : M[i]? = some (b, c, t)) : w0.heap.size ≤ b := h.new _ (List.mem_of_getElem? hi)
end Go.Mi
namespace Go.Mi
theorem ndec_true {p : Prop} [Decidable p] (h : (!decide p) = true) : ¬ p := by simpa using h
theorem ndec_false {p : Prop} [Decidable p] (h : (!decide p) = false) : p := by simpa using h
end Go.Mi
namespace Go.Mi
open Go.RowKit
section
variable {P : Program} {w w0 : World} {n : Nat} {L : List (Nat × Value)} {ds : Option Tmp} {ty : TypeId} {pos : String} {af : Array Edge} {gu : Option (Nat × Bool)}

theorem run_equalIn_bool (d : Nat) {a b : Bool} {t : TypeId} (ht : P.underlying t = some .bool) : (Op.equalIn (d + 1) t (.bool a) (.bool b)).run P w = .ok (a == b) w := by
  simp [Op.equalIn, run_underlying' ht]
theorem run_equal_bool {a b : Bool} {t : TypeId} (ht : P.underlying t = some .bool) : (Op.equal t (.bool a) (.bool b)).run P w = .ok (a == b) w :=
  run_equalIn_bool 9999 ht
theorem d_eqlB {x y : Operand} {a b : Bool} {t t' : TypeId} (ht : P.underlying t = some .bool) (hx : ev L x = some (.bool a)) (hy : ev L y = some (.bool b)) : Det P ⟨ds, .binOp .eql t x y t', ty, pos, af, gu⟩ n L w (.bool (a == b)) w :=
  Det.of_run fun a' hF => by
    have h1 : (binOp .eql t (.bool a) (.bool b)).run P w = .ok (.bool (a == b)) w := by
      show (Op.equal t (.bool a) (.bool b) >>= fun r => pure (Value.bool r)).run P w = _
      rw [Sem.run_bind, run_equal_bool ht]; rfl
    simp [execOp, hF.eval hx, hF.eval hy, eqGuard, h1]
theorem d_neqB {x y : Operand} {a b : Bool} {t t' : TypeId} (ht : P.underlying t = some .bool) (hx : ev L x = some (.bool a)) (hy : ev L y = some (.bool b)) : Det P ⟨ds, .binOp .neq t x y t', ty, pos, af, gu⟩ n L w (.bool (!(a == b))) w :=
  Det.of_run fun a' hF => by
    have h1 : (binOp .neq t (.bool a) (.bool b)).run P w = .ok (.bool (!(a == b))) w := by
      show (Op.equal t (.bool a) (.bool b) >>= fun r => pure (Value.bool !r)).run P w = _
      rw [Sem.run_bind, run_equal_bool ht]; rfl
    simp [execOp, hF.eval hx, hF.eval hy, eqGuard, h1]
theorem d_eqlS {x y : Operand} {a b : ByteArray} {t t' : TypeId} (hx : ev L x = some (.string a)) (hy : ev L y = some (.string b)) : Det P ⟨ds, .binOp .eql t x y t', ty, pos, af, gu⟩ n L w (.bool (a.toList == b.toList)) w :=
  Det.of_run fun a' hF => by simp [execOp, hF.eval hx, hF.eval hy, eqGuard, binOp, Op.stringOp]
theorem d_neqS {x y : Operand} {a b : ByteArray} {t t' : TypeId} (hx : ev L x = some (.string a)) (hy : ev L y = some (.string b)) : Det P ⟨ds, .binOp .neq t x y t', ty, pos, af, gu⟩ n L w (.bool (!(a.toList == b.toList))) w :=
  Det.of_run fun a' hF => by simp [execOp, hF.eval hx, hF.eval hy, eqGuard, binOp, Op.stringOp]

/-- a slice of numbers that came in -/
structure Sl (w : World) (ad : Option Addr) (n : Nat) (k : IntKind) (X : Nat → Int) : Prop where
  h : n = 0 ∨ ∃ b o, ad = some ⟨b, o, none⟩ ∧ ∀ j, j < n → w.cell? ⟨b, o + j, none⟩ = some (.int k (X j))
theorem Sl.mem {ad : Option Addr} {m : Nat} {k : IntKind} {X : Nat → Int} {M : List Blk} (h : Sl w0 ad m k X) (hM : Mem w0 w M) : Sl w ad m k X := by
  refine ⟨h.h.imp id ?_⟩
  rintro ⟨b, o, h1, h2⟩
  exact ⟨b, o, h1, fun j hj => hM.old (h2 j hj)⟩


/-- two arrays of numbers, alike -/
theorem d_eqlA {x y : Operand} {t t' e : TypeId} {k : IntKind} {len : Nat} {F G : Nat → Int} (ht : P.underlying t = some (.array len e)) (he : P.underlying e = some (.int k)) (hs : (P.info? e).map (·.size) = some 1) (hg : P.eqGuardType P.depth t = false)
    (hx : ev L x = some (.agg (cl k len F))) (hy : ev L y = some (.agg (cl k len G))) (h : ∀ i, i < len → F i = G i) : Det P ⟨ds, .binOp .eql t x y t', ty, pos, af, gu⟩ n L w (.bool true) w :=
  Det.of_run fun a' hF => by
    obtain ⟨inf, hi, hz⟩ := Option.map_eq_some_iff.1 hs
    have hc : P.cellsOf e = 1 := by simp [Program.cellsOf, hi, hz]
    have key : ∀ (l : List Nat), (∀ i ∈ l, i < len) → (Op.eqItems 9999 e 1 (cl k len F) (cl k len G) l).run P w = .ok true w := by
      intro l
      induction l with
      | nil => intro _; rfl
      | cons i l ih =>
        intro hl
        have hil := hl i (List.mem_cons_self ..)
        have hp : ∀ H : Nat → Int, (part e (cl k len H) (i * 1)).run P w = .ok (.int k (H i)) w := by
          intro H
          simp only [part, Sem.run_bind, run_isAgg_flat he rfl, Result.andThen_ok, Bool.false_eq_true, if_false, Nat.mul_one, cl_get hil, Sem.run_pure]
        have hq : (Op.equalIn 9999 e (.int k (F i)) (.int k (G i))).run P w = .ok true w := by
          rw [run_equalIn_int w 9998 e k k _ _ he, h i hil]; simp
        simp only [Op.eqItems, Sem.run_bind, hp, Result.andThen_ok, hq]
        simp only [Bool.not_true, Bool.false_eq_true, if_false]
        exact ih fun j hj => hl j (List.mem_cons_of_mem _ hj)
    have h1 : (binOp .eql t (.agg (cl k len F)) (.agg (cl k len G))).run P w = .ok (.bool true) w := by
      rw [run_eql_struct, run_equalIn_array w 9999 _ _ ht hi, hc, key _ (fun i hi => by simpa using hi)]; rfl
    simp [execOp, hF.eval hx, hF.eval hy, run_eqGuard_agg w _ t x y _ _ hg, h1]

/-- bytes as a text -/
def bytesOf (len : Nat) (X : Nat → Int) : ByteArray := ((List.range len).map X).foldl (fun r n => r.push (UInt8.ofNat n.toNat)) ByteArray.empty
theorem run_loadCells_each {b o : Nat} {V : Nat → Value} : ∀ (m i : Nat) (acc : Array Value), (∀ j, i ≤ j → j < i + m → w.cell? ⟨b, o + j, none⟩ = some (V j)) →
    (loadCellsFrom ⟨b, o, none⟩ i m acc).run P w = .ok (acc ++ ((List.range' i m).map V).toArray) w
  | 0, i, acc, h => by simp [loadCellsFrom]
  | m + 1, i, acc, h => by
    simp only [loadCellsFrom, add_none, Sem.run_bind, run_load, h i (Nat.le_refl _) (by omega), Result.andThen_ok]
    rw [run_loadCells_each m (i + 1) _ fun j h1 h2 => h j (by omega) (by omega)]
    congr 1
    apply Array.ext'
    simp [List.range'_succ]
theorem d_bytes_string {x : Operand} {s t e : TypeId} {ad : Option Addr} {len cap : Nat} {X : Nat → Int} (hs : P.underlying s = some (.slice e)) (he : P.underlying e = some (.int .u8)) (ht : P.underlying t = some .string)
    (hx : ev L x = some (.slice ad len cap)) (hsl : Sl w ad len .u8 X) (hnil : ad = none → len = 0) : Det P ⟨ds, .convert s t x, ty, pos, af, gu⟩ n L w (.string (bytesOf len X)) w :=
  Det.of_run fun a' hF => by
    have h1 : (Conv.bytesToString (.slice ad len cap)).run P w = .ok (.string (bytesOf len X)) w := by
      cases ad with
      | none => obtain rfl := hnil rfl; rfl
      | some a =>
        have hl : (loadCells a len).run P w = .ok (((List.range len).map X).map (Value.int .u8)).toArray w := by
          rcases hsl.h with h0 | ⟨b, o, h1, h2⟩
          · subst h0; rfl
          · cases h1
            have := run_loadCells_each (P := P) (V := fun j => Value.int .u8 (X j)) len 0 #[] fun j _ hj => h2 j (by omega)
            rw [loadCells, this]
            simp [List.range_eq_range']
        exact run_bytesToString w a len cap _ hl
    simp [execOp, hF.eval hx, run_convert_bytes_string w s t e ad len cap hs he ht, h1]
theorem bytesOf_congr {len : Nat} {X Y : Nat → Int} (h : ∀ i, i < len → X i = Y i) : bytesOf len X = bytesOf len Y := by
  unfold bytesOf
  rw [List.map_congr_left fun i hi => h i (by simpa using hi)]
theorem Sl.of_mem {M : List Blk} {b m : Nat} {k : IntKind} {X : Nat → Int} {t : TypeId} (hM : Mem w0 w M) (i : Nat) (hi : M[i]? = some (b, cl k m X, t)) : Sl w (some ⟨b, 0, none⟩) m k X :=
  ⟨.inr ⟨b, 0, rfl, fun j hj => by rw [Nat.zero_add]; exact hM.cell i hi (cl_get hj)⟩⟩
end
end Go.Mi
namespace Go.Mi
open Go.RowKit

/-- of one operation: the operations that it builds on; the slots of before that it reads; behind how many doings it may come; on whose yields its own hangs; its value -/
structure HRow where
  us : List (Nat × Nat)
  zs : List (Nat × Value)
  ph : List Nat
  hs : List Nat
  out : (Nat → Value) → Value
  dep : ∀ H H' : Nat → Value, (∀ j, j ∈ hs → H j = H' j) → out H = out H'
def HRow.sh (r : HRow) : Row (fun _ _ => True) := ⟨r.us, r.zs, r.ph, .val undef⟩
def updV (H : Nat → Value) (i : Nat) (v : Value) : Nat → Value := fun j => bif Nat.beq j i then v else H j
theorem updV_eq (H : Nat → Value) (i : Nat) (v : Value) : updV H i v i = v := by simp [updV]
theorem updV_ne {H : Nat → Value} {i j : Nat} {v : Value} (h : j ≠ i) : updV H i v j = H j := by simp [updV, beqf h]
def HRow.fr (rows : List HRow) (r : HRow) (H : Nat → Value) : List (Nat × Value) :=
  r.us.map (fun p => (p.2, ((rows[p.1]?).map (·.out H)).getD undef)) ++ r.zs
def okHs (l : List Oper) (rows : List HRow) : Bool :=
  let B := befs l []
  rows.zipIdx.all fun q => q.1.hs.all fun j => Nat.beq j q.2 || (B.getD q.2 0).testBit j
def okAllH (n : Nat) (ss : List Nat) (l : List Oper) (rows : List HRow) : Bool := okAll n ss l (rows.map HRow.sh) && okHs l rows

def vb : Value → Option Bool
  | .bool b => some b
  | _ => none
/-- what is to be shown of one operation -/
def HOb (P : Program) (n : Nat) (Wd : Nat → (Nat → Value) → World → Prop) (ss : List Nat) (L0 : List (Nat × Value)) (rows : List HRow) (i : Nat) (o : Oper) (r : HRow) : Prop :=
  subL L0 r.zs ∧ ∀ (p : Nat), memN p r.ph = true → ∀ (H : Nat → Value) (w : World), Wd p H w →
    let R : Value → World → Prop := fun v w' => bif memN i ss then Wd (p + 1) (updV H i v) w' ∧ v = r.out (updV H i v) else Wd p H w' ∧ v = r.out H
    match o.guard with
    | none => Ok1 P o n (r.fr rows H) w R
    | some (j, b) => ∃ c rj, rows[j]? = some rj ∧ vb (rj.out H) = c ∧ (if c = some b then Ok1 P o n (r.fr rows H) w R else memN i ss = false ∧ undef = r.out H)

def HObs (P : Program) (n : Nat) (Wd : Nat → (Nat → Value) → World → Prop) (ss : List Nat) (L0 : List (Nat × Value)) (rows : List HRow) : Nat → List Oper → List HRow → Prop
  | i, o :: os, r :: rs => HOb P n Wd ss L0 rows i o r ∧ HObs P n Wd ss L0 rows (i + 1) os rs
  | _, _, _ => True

variable {P : Program} {n : Nat} {Wd : Nat → (Nat → Value) → World → Prop} {ss : List Nat} {L0 : List (Nat × Value)} {rows : List HRow}

theorem HObs.at : ∀ {os : List Oper} {rs : List HRow} {k : Nat}, HObs P n Wd ss L0 rows k os rs → ∀ (i : Nat) (o : Oper) (r : HRow), os[i]? = some o → rs[i]? = some r → HOb P n Wd ss L0 rows (k + i) o r
  | o :: os, r :: rs, k, h, 0, o', r', h1, h2 => by simp at h1 h2; subst h1; subst h2; exact h.1
  | o :: os, r :: rs, k, h, i + 1, o', r', h1, h2 => by
    have := HObs.at h.2 i o' r' (by simpa using h1) (by simpa using h2)
    rwa [show k + 1 + i = k + (i + 1) by omega] at this
  | [], rs, _, _, i, o', r', h1, _ => by simp at h1
  | _ :: _, [], _, _, i, o', r', _, h2 => by simp at h2

/-- the state in the middle of a region -/
structure HInv (l : List Oper) (n : Nat) (Wd : Nat → (Nat → Value) → World → Prop) (ss : List Nat) (L0 : List (Nat × Value)) (rows : List HRow) (listed : Array Bool) (p : Nat) (H : Nat → Value) (a : Act) (w : World) : Prop where
  size : listed.size = l.length
  closed : ∀ i o, l[i]? = some o → listed.getD i false = true → ∀ e ∈ o.after.toList, Region.binds .any e = true → listed.getD e.on false = true
  ple : p ≤ ss.length
  phase : ∀ k s, ss[k]? = some s → (listed.getD s false = true ↔ k < p)
  frame : a.tmps.size = n
  defers : a.defers = []
  wd : Wd p H w
  done : ∀ i o r d, l[i]? = some o → rows[i]? = some r → listed.getD i false = true → o.dst = some d → a.tmps.getD d undef = r.out H
  rest : ∀ s v, lk L0 s = some v → (∀ i o, l[i]? = some o → o.dst = some s → listed.getD i false = false) → a.tmps.getD s undef = v

variable {l : List Oper} {listed : Array Bool} {p : Nat} {H : Nat → Value} {a : Act} {w : World} {Q : Exit → Act → World → Prop}

theorem HInv.ahead (h : HInv l n Wd ss L0 rows listed p H a w) {i j : Nat} (ha : Ahead l i j) : listed.getD i false = true → listed.getD j false = true := by
  induction ha with
  | edge h1 h2 h3 => exact fun hi => h.closed _ _ h1 hi _ h2 h3
  | trans _ _ ih1 ih2 => exact fun hi => ih2 (ih1 hi)

theorem readyH_ahead (h : HInv l n Wd ss L0 rows listed p H a w) {i : Nat} (hr : i ∈ Region.ready .any l.toArray listed) {j : Nat} (ha : Ahead l i j) : listed.getD j false = true := by
  simp only [Region.ready, List.mem_filter, List.mem_range, Bool.and_eq_true] at hr
  obtain ⟨hi, _, hall⟩ := hr
  have direct : ∀ (o : Oper) (e : Edge), l[i]? = some o → e ∈ o.after.toList → Region.binds .any e = true → listed.getD e.on false = true := by
    intro o e ho he hb
    simp only [List.getElem?_toArray, ho, Option.map_some, Option.getD_some, Array.all_eq_true'] at hall
    have := hall e (by simpa using he)
    simpa [hb] using this
  have key : ∀ i' j', Ahead l i' j' → i' = i → listed.getD j' false = true := by
    intro i' j' ha'
    induction ha' with
    | edge h1 h2 h3 => intro e; subst e; exact direct _ _ h1 h2 h3
    | trans h1 h2 ih1 ih2 => exact fun e => h.ahead h2 (ih1 e)
  exact key i j ha rfl

theorem okHs.of (h : okHs l rows = true) : ∀ (i : Nat) (r : HRow), rows[i]? = some r → ∀ j, j ∈ r.hs → j = i ∨ Ahead l i j := by
  have hB := befs_ok l l [] (fun j o hj => by simpa using hj) (by simp)
  intro i r hr j hj
  simp only [okHs, List.all_eq_true, Bool.or_eq_true] at h
  rcases h (r, i) (mem_zipIdx' hr) j hj with h | h
  · exact .inl (Nat.eq_of_beq_eq_true h)
  · exact .inr (hB _ _ h)

theorem planH_step (ok : OkAll n ss l (rows.map HRow.sh)) (okh : ∀ (i : Nat) (r : HRow), rows[i]? = some r → ∀ j, j ∈ r.hs → j = i ∨ Ahead l i j) (hobs : HObs P n Wd ss L0 rows 0 l rows) (h : HInv l n Wd ss L0 rows listed p H a w) {i : Nat} (hr : i ∈ Region.ready .any l.toArray listed) :
    wpOp P l.toArray Q i (fun a' w' => ∃ p' H', HInv l n Wd ss L0 rows (listed.setIfInBounds i true) p' H' a' w') a w := by
  obtain ⟨hil, hnl⟩ := ready_lt hr
  have hil' : i < l.length := by simpa using hil
  have hnl' : listed.getD i false = false := by
    have : i < listed.size := by rw [h.size]; exact hil'
    simpa [this] using hnl
  obtain ⟨o, ho⟩ : ∃ o, l[i]? = some o := ⟨_, List.getElem?_eq_getElem hil'⟩
  obtain ⟨r, hrow⟩ : ∃ r, rows[i]? = some r := ⟨_, List.getElem?_eq_getElem (by have := ok.len; rw [List.length_map] at this; rw [this]; exact hil')⟩
  obtain ⟨hus, hzs, hgd, hph⟩ := ok.row i o r.sh ho (by rw [List.getElem?_map, hrow]; rfl)
  have hphase : memN p r.ph = true := by
    rcases hph p h.ple with h' | ⟨k, s, hk, h' | h'⟩
    · exact h'
    · obtain ⟨hkp, h'⟩ := h'
      have hs := (h.phase k s hk).2 hkp
      rcases h' with h' | h'
      · have := h.ahead h' hs; rw [hnl'] at this; simp at this
      · rw [h', hnl'] at hs; simp at hs
    · obtain ⟨hkp, h'⟩ := h'
      have hs := (h.phase k s hk).1 (readyH_ahead h hr h')
      omega
  obtain ⟨hsub, hob0⟩ := hobs.at i o r ho hrow
  rw [Nat.zero_add] at hob0
  have hob := hob0 p hphase
  have hlisted : ∀ u ∈ r.us, listed.getD u.1 false = true := fun u hu => readyH_ahead h hr (hus u hu).1
  have hholds : ∀ u ∈ r.us, ∀ r', rows[u.1]? = some r' → a.tmps.getD u.2 undef = r'.out H := by
    intro u hu r' hr'
    obtain ⟨ha, o', ho', hd'⟩ := hus u hu
    exact h.done u.1 o' r' u.2 ho' hr' (hlisted u hu) hd'
  have hF : Frm a n (r.fr rows H) := by
    refine ⟨h.frame, h.defers, fun t v hv => ?_⟩
    have hm := lk_mem hv
    simp only [HRow.fr, List.mem_append, List.mem_map, Prod.mk.injEq] at hm
    rcases hm with ⟨u, hu, rfl, rfl⟩ | hm
    · obtain ⟨_, o', ho', _⟩ := hus u hu
      obtain ⟨r', hr'⟩ : ∃ r', rows[u.1]? = some r' := by
        refine ⟨_, List.getElem?_eq_getElem ?_⟩
        have := ok.len
        rw [List.length_map] at this
        rw [this]
        rcases Nat.lt_or_ge u.1 l.length with h' | h'
        · exact h'
        · simp [List.getElem?_eq_none h'] at ho'
      simp only [hr', Option.map_some, Option.getD_some]
      exact hholds u hu r' hr'
    · refine h.rest t v (subL_mem hsub _ hm) fun j o' hj hd => ?_
      rcases hzs _ hm j o' hj hd with rfl | ha
      · exact hnl'
      · cases hlj : listed.getD j false with
        | false => rfl
        | true =>
          have := h.ahead ha hlj
          rw [hnl'] at this
          simp at this
  have hsz : i < listed.size := by rw [h.size]; exact hil'
  have hget : ∀ j, (listed.setIfInBounds i true).getD j false = if j = i then true else listed.getD j false := fun j => getD_set hsz
  -- the phase behind
  have hph2 : (bif memN i ss then p + 1 else p) ≤ ss.length ∧ ∀ k s, ss[k]? = some s → ((listed.setIfInBounds i true).getD s false = true ↔ k < (bif memN i ss then p + 1 else p)) := by
    have uniq : ∀ k k' : Nat, ss[k]? = some i → ss[k']? = some i → k = k' := by
      intro k k' hk hk'
      rcases Nat.lt_trichotomy k k' with hlt | he | hgt
      · have := readyH_ahead h hr (ok.chain k k' i i hk hk' hlt); rw [hnl'] at this; simp at this
      · exact he
      · have := readyH_ahead h hr (ok.chain k' k i i hk' hk hgt); rw [hnl'] at this; simp at this
    cases hmem : memN i ss with
    | false =>
      simp only [cond_false]
      refine ⟨h.ple, fun k s hk => ?_⟩
      have hne : s ≠ i := fun e => by
        have : i ∈ ss := by subst e; exact List.mem_of_getElem? hk
        rw [memN_iff.2 this] at hmem
        simp at hmem
      rw [hget, if_neg hne]
      exact h.phase k s hk
    | true =>
      simp only [cond_true]
      obtain ⟨k0, hk0⟩ := List.mem_iff_getElem?.1 (memN_iff.1 hmem)
      have hk0l : k0 < ss.length := by
        rcases Nat.lt_or_ge k0 ss.length with h' | h'
        · exact h'
        · simp [List.getElem?_eq_none h'] at hk0
      have h1 : ¬ k0 < p := fun hlt => by
        have := (h.phase k0 i hk0).2 hlt; rw [hnl'] at this; simp at this
      have h2 : ∀ k, k < k0 → k < p := by
        intro k hk
        obtain ⟨s, hs⟩ : ∃ s, ss[k]? = some s := ⟨_, List.getElem?_eq_getElem (by omega)⟩
        exact (h.phase k s hs).1 (readyH_ahead h hr (ok.chain k k0 s i hs hk0 hk))
      have hpk : p = k0 := by
        have := h.ple
        rcases Nat.lt_trichotomy p k0 with hlt | he | hgt
        · have := h2 p hlt; omega
        · exact he
        · omega
      refine ⟨by omega, fun k s hk => ?_⟩
      rw [hget]
      by_cases hsi : s = i
      · subst hsi
        have := uniq k k0 hk hk0
        rw [if_pos rfl]
        simp
        omega
      · rw [if_neg hsi, h.phase k s hk]
        have hne : k ≠ k0 := fun e => by subst e; rw [hk0] at hk; exact hsi (by simpa using hk.symm)
        omega
  have hkeep : ∀ (j : Nat) (r' : HRow), rows[j]? = some r' → listed.getD j false = true → ∀ v, r'.out (bif memN i ss then updV H i v else H) = r'.out H := by
    intro j r' hrj hlj v
    refine r'.dep _ _ fun jj hjj => ?_
    have hlt : listed.getD jj false = true := by
      rcases okh j r' hrj jj hjj with rfl | ha
      · exact hlj
      · exact h.ahead ha hlj
    cases memN i ss with
    | false => rfl
    | true => exact updV_ne fun e => by rw [e, hnl'] at hlt; simp at hlt
  have hfin : ∀ v w', (bif memN i ss then Wd (p + 1) (updV H i v) w' ∧ v = r.out (updV H i v) else Wd p H w' ∧ v = r.out H) → ∃ p' H', HInv l n Wd ss L0 rows (listed.setIfInBounds i true) p' H' (a.put o.dst v) w' := by
    intro v w' hR
    have hwd : Wd (bif memN i ss then p + 1 else p) (bif memN i ss then updV H i v else H) w' := by
      cases hm : memN i ss <;> rw [hm] at hR <;> exact hR.1
    have hv : v = r.out (bif memN i ss then updV H i v else H) := by
      cases hm : memN i ss <;> rw [hm] at hR <;> exact hR.2
    refine ⟨_, (bif memN i ss then updV H i v else H), by simp [h.size], ?_, hph2.1, hph2.2, ?_, ?_, hwd, ?_, ?_⟩
    · intro j o' hj hlj e he hb
      rw [hget] at hlj ⊢
      split
      · rfl
      · split at hlj
        · rename_i hji
          subst hji
          rw [ho] at hj
          cases hj
          exact ready_edges ho hr e he hb
        · exact h.closed j o' hj hlj e he hb
    · cases hd : o.dst <;> simp [Act.put, h.frame]
    · cases hd : o.dst <;> simp [Act.put, h.defers]
    · intro j o' r' d hj hrj hlj hd
      rw [hget] at hlj
      by_cases hji : j = i
      · subst hji
        rw [ho] at hj
        cases hj
        rw [hrow] at hrj
        cases hrj
        have hdn := ok.slot _ _ _ ho hd
        rw [← hv]
        simp only [hd, Act.put]
        simp [h.frame, hdn]
      · rw [if_neg hji] at hlj
        have hold := h.done j o' r' d hj hrj hlj hd
        have hne : o.dst ≠ some d := fun e => ok.once i j o o' ho hj (fun x => hji x.symm) (by rw [e]; simp) (by rw [e, hd])
        have : (a.put o.dst v).tmps.getD d undef = a.tmps.getD d undef := by
          cases hod : o.dst with
          | none => rfl
          | some d' =>
            have : d' ≠ d := fun e => hne (by rw [hod, e])
            simp [Act.put, Array.getElem?_setIfInBounds_ne this]
        rw [this, hkeep j r' hrj hlj v]
        exact hold
    · intro s u hs hno
      have hne : o.dst ≠ some s := fun e => by
        have := hno i o ho e
        rw [hget, if_pos rfl] at this
        simp at this
      have : (a.put o.dst v).tmps.getD s undef = a.tmps.getD s undef := by
        cases hod : o.dst with
        | none => rfl
        | some d' =>
          have : d' ≠ s := fun e => hne (by rw [hod, e])
          simp [Act.put, Array.getElem?_setIfInBounds_ne this]
      rw [this]
      refine h.rest s u hs fun j o' hj hd => ?_
      have := hno j o' hj hd
      rw [hget] at this
      split at this
      · simp at this
      · exact this
  have hob' := hob H w h.wd
  unfold wpOp
  simp only [List.getElem?_toArray, ho]
  cases hgu : o.guard with
  | none =>
    rw [hgu] at hob'
    rw [if_pos (by simp [Region.wanted, hgu])]
    exact .inl (hob' a _ Q hF fun v w' hR => hfin v w' hR)
  | some jb =>
    obtain ⟨j, b⟩ := jb
    rw [hgu] at hob'
    obtain ⟨c, rj, hrj, hout, hx⟩ := hob'
    obtain ⟨u, hu, huj⟩ := hgd j b hgu
    obtain ⟨ha, o', ho', hd'⟩ := hus u hu
    have hval : vb (a.tmps.getD u.2 undef) = c := by
      have := hholds u hu rj (by rw [huj]; exact hrj)
      rw [this]
      exact hout
    have hy : yielded l.toArray a.tmps j = c := by
      subst huj
      have hlt := ok.slot _ _ _ ho' hd'
      have hlt' : u.2 < a.tmps.size := by rw [h.frame]; exact hlt
      have hv2 : a.tmps[u.2]? = some (a.tmps.getD u.2 undef) := by
        rw [Array.getElem?_eq_getElem hlt']
        simp [hlt']
      rw [← hval]
      simp only [yielded, List.getElem?_toArray, ho', Option.bind_some, hd', hv2]
      generalize a.tmps.getD u.2 undef = x
      cases x <;> rfl
    by_cases hcb : c = some b
    · subst hcb
      simp only [if_true] at hx
      rw [if_pos (by simp [Region.wanted, hgu, hy])]
      exact .inl (hx a _ Q hF fun v w' hR => hfin v w' hR)
    · rw [if_neg hcb] at hx
      rw [if_neg (by simp [Region.wanted, hgu, hy, hcb])]
      have hwd : Wd (bif memN i ss then p + 1 else p) H w := by rw [hx.1]; exact h.wd
      -- nothing happens: the old facts stand as they stood
      refine ⟨_, H, by simp [h.size], ?_, hph2.1, hph2.2, ?_, ?_, hwd, ?_, ?_⟩
      · intro j o' hj hlj e he hb
        rw [hget] at hlj ⊢
        split
        · rfl
        · split at hlj
          · rename_i hji
            subst hji
            rw [ho] at hj
            cases hj
            exact ready_edges ho hr e he hb
          · exact h.closed j o' hj hlj e he hb
      · cases hd : o.dst <;> simp [Act.put, h.frame]
      · cases hd : o.dst <;> simp [Act.put, h.defers]
      · intro j o' r' d hj hrj hlj hd
        rw [hget] at hlj
        by_cases hji : j = i
        · subst hji
          rw [ho] at hj
          cases hj
          rw [hrow] at hrj
          cases hrj
          have hdn := ok.slot _ _ _ ho hd
          rw [← hx.2]
          simp only [hd, Act.put]
          simp [h.frame, hdn]
        · rw [if_neg hji] at hlj
          have hold := h.done j o' r' d hj hrj hlj hd
          have hne : o.dst ≠ some d := fun e => ok.once i j o o' ho hj (fun x => hji x.symm) (by rw [e]; simp) (by rw [e, hd])
          have : (a.put o.dst undef).tmps.getD d undef = a.tmps.getD d undef := by
            cases hod : o.dst with
            | none => rfl
            | some d' =>
              have : d' ≠ d := fun e => hne (by rw [hod, e])
              simp [Act.put, Array.getElem?_setIfInBounds_ne this]
          rw [this]
          exact hold
      · intro s u hs hno
        have hne : o.dst ≠ some s := fun e => by
          have := hno i o ho e
          rw [hget, if_pos rfl] at this
          simp at this
        have : (a.put o.dst undef).tmps.getD s undef = a.tmps.getD s undef := by
          cases hod : o.dst with
          | none => rfl
          | some d' =>
            have : d' ≠ s := fun e => hne (by rw [hod, e])
            simp [Act.put, Array.getElem?_setIfInBounds_ne this]
        rw [this]
        refine h.rest s u hs fun j o' hj hd => ?_
        have := hno j o' hj hd
        rw [hget] at this
        split at this
        · simp at this
        · exact this

/-- what is known when all is done -/
structure HDone (l : List Oper) (n : Nat) (Wd : Nat → (Nat → Value) → World → Prop) (ss : List Nat) (L0 : List (Nat × Value)) (rows : List HRow) (H : Nat → Value) (a : Act) (w : World) : Prop where
  frame : a.tmps.size = n
  defers : a.defers = []
  wd : Wd ss.length H w
  done : ∀ (i : Nat) (o : Oper) (r : HRow) (d : Nat), l[i]? = some o → rows[i]? = some r → o.dst = some d → a.tmps.getD d undef = r.out H
  rest : ∀ s v, lk L0 s = some v → (∀ (i : Nat) (o : Oper), l[i]? = some o → o.dst ≠ some s) → a.tmps.getD s undef = v

theorem planH_main (ok : OkAll n ss l (rows.map HRow.sh)) (okh : ∀ (i : Nat) (r : HRow), rows[i]? = some r → ∀ j, j ∈ r.hs → j = i ∨ Ahead l i j) (hobs : HObs P n Wd ss L0 rows 0 l rows)
    (hend : ∀ H a w, HDone l n Wd ss L0 rows H a w → Q .normal a w) :
    ∀ (fuel : Nat) (listed : Array Bool) (p : Nat) (H : Nat → Value) (a : Act) (w : World), HInv l n Wd ss L0 rows listed p H a w → left l.length listed ≤ fuel → wpAny P .any l.toArray Q fuel listed a w := by
  have whenAll : ∀ (listed : Array Bool) (p : Nat) (H : Nat → Value) (a : Act) (w : World), HInv l n Wd ss L0 rows listed p H a w → (∀ i, i < l.length → listed.getD i false = true) → Q .normal a w := by
    intro listed p H a w h hall
    have hp : p = ss.length := by
      rcases Nat.lt_or_ge p ss.length with hlt | hge
      · obtain ⟨s, hs⟩ : ∃ s, ss[p]? = some s := ⟨_, List.getElem?_eq_getElem hlt⟩
        have := (h.phase p s hs).1 (hall s (ok.inn p s hs))
        omega
      · have := h.ple; omega
    subst hp
    refine hend H a w ⟨h.frame, h.defers, h.wd, fun i o r d ho hr hd => ?_, fun s v hs hno => ?_⟩
    · refine h.done i o r d ho hr (hall i ?_) hd
      rcases Nat.lt_or_ge i l.length with h' | h'
      · exact h'
      · simp [List.getElem?_eq_none h'] at ho
    · exact h.rest s v hs fun i o ho hd => absurd hd (hno i o ho)
  have hready : ∀ (listed : Array Bool) (p : Nat) (H : Nat → Value) (a : Act) (w : World), HInv l n Wd ss L0 rows listed p H a w → Region.ready .any l.toArray listed = [] → ∀ i, i < l.length → listed.getD i false = true := by
    intro listed p H a w h hnil i0 hi0
    have : ∀ k i, i ≤ k → i < l.length → listed.getD i false = false → False := by
      intro k
      induction k with
      | zero =>
        intro i hik hil hif
        have hi0 : i = 0 := by omega
        subst hi0
        have ho : l[0]? = some l[0] := List.getElem?_eq_getElem hil
        have hmem : 0 ∈ Region.ready .any l.toArray listed := by
          simp only [Region.ready, List.mem_filter, List.mem_range, Bool.and_eq_true]
          refine ⟨by simpa using hil, ?_, ?_⟩
          · have : 0 < listed.size := by rw [h.size]; exact hil
            simpa [this] using hif
          · simp only [List.getElem?_toArray, ho, Option.map_some, Option.getD_some, Array.all_eq_true']
            intro e he
            cases hbd : Region.binds .any e with
            | false => simp
            | true => have := ok.back 0 _ ho e (by simpa using he) hbd; omega
        rw [hnil] at hmem
        simp at hmem
      | succ k ihk =>
        intro i hik hil hif
        by_cases hlow : ∃ j, j < i ∧ listed.getD j false = false
        · obtain ⟨j, hj, hjf⟩ := hlow
          exact ihk j (by omega) (by omega) hjf
        · have ho : l[i]? = some l[i] := List.getElem?_eq_getElem hil
          have hmem : i ∈ Region.ready .any l.toArray listed := by
            simp only [Region.ready, List.mem_filter, List.mem_range, Bool.and_eq_true]
            refine ⟨by simpa using hil, ?_, ?_⟩
            · have : i < listed.size := by rw [h.size]; exact hil
              simpa [this] using hif
            · simp only [List.getElem?_toArray, ho, Option.map_some, Option.getD_some, Array.all_eq_true']
              intro e he
              cases hbd : Region.binds .any e with
              | false => simp
              | true =>
                have hlt := ok.back i _ ho e (by simpa using he) hbd
                cases hb : listed.getD e.on false with
                | true => simp
                | false => exact absurd ⟨e.on, hlt, hb⟩ hlow
          rw [hnil] at hmem
          simp at hmem
    cases hb : listed.getD i0 false with
    | true => rfl
    | false => exact (this i0 i0 (Nat.le_refl _) hi0 hb).elim
  intro fuel
  induction fuel with
  | zero =>
    intro listed p H a w h hf
    have hall : ∀ i, i < l.length → listed.getD i false = true := by
      intro i hi
      have h0 : left l.length listed = 0 := by omega
      unfold left at h0
      rw [List.countP_eq_zero] at h0
      simpa using h0 i (by simpa using hi)
    refine ⟨?_, whenAll listed p H a w h hall⟩
    unfold Region.ready
    rw [List.filter_eq_nil_iff]
    intro i hi
    have hi' : i < l.length := by simpa using hi
    have h1 := hall i hi'
    have h2 : i < listed.size := by rw [h.size]; exact hi'
    have h3 : listed.getD i true = true := by simpa [h2] using h1
    rw [h3]
    simp
  | succ fuel ih =>
    intro listed p H a w h hf
    refine ⟨fun hnil => whenAll listed p H a w h (hready listed p H a w h hnil), fun i hi => ?_⟩
    refine wpOp_mono (fun a' w' h' => ?_) (planH_step (Q := Q) ok okh hobs h hi)
    obtain ⟨p', H', h'⟩ := h'
    refine ih _ p' H' a' w' h' ?_
    have hlt : i < l.length := by simpa using (ready_lt hi).1
    have hsz : i < listed.size := by rw [h.size]; exact hlt
    have hf' : listed.getD i false = false := by
      have := (ready_lt hi).2
      simpa [hsz] using this
    have := left_set hsz hlt hf'
    omega

/-- what the slots hold behind a region -/
def outH (H : Nat → Value) : List Oper → List HRow → List (Nat × Value)
  | o :: os, r :: rs => match o.dst with
    | some d => (d, r.out H) :: outH H os rs
    | none => outH H os rs
  | _, _ => []
theorem lk_outH {t : Nat} {v : Value} : ∀ {os : List Oper} {rs : List HRow}, lk (outH H os rs) t = some v →
    ∃ (i : Nat) (o : Oper) (r : HRow), os[i]? = some o ∧ rs[i]? = some r ∧ o.dst = some t ∧ v = r.out H
  | o :: os, r :: rs, h => by
    simp only [outH] at h
    cases hd : o.dst with
    | none =>
      rw [hd] at h
      obtain ⟨i, o', r', h1, h2, h3, h4⟩ := lk_outH h
      exact ⟨i + 1, o', r', by simpa using h1, by simpa using h2, h3, h4⟩
    | some d =>
      rw [hd] at h
      simp only [lk] at h
      by_cases e : d = t
      · subst e
        simp at h
        exact ⟨0, o, r, rfl, rfl, hd, h.symm⟩
      · rw [beqf e] at h
        obtain ⟨i, o', r', h1, h2, h3, h4⟩ := lk_outH h
        exact ⟨i + 1, o', r', by simpa using h1, by simpa using h2, h3, h4⟩
  | [], rs, h => by simp [outH, lk] at h
  | _ :: _, [], h => by simp [outH, lk] at h
theorem lk_outH_none {t : Nat} : ∀ {os : List Oper} {rs : List HRow}, lk (outH H os rs) t = none → ∀ (i : Nat) (o : Oper), i < rs.length → os[i]? = some o → o.dst ≠ some t
  | o :: os, r :: rs, h, i, o', hi, ho => by
    simp only [outH] at h
    cases i with
    | zero =>
      simp at ho
      subst ho
      intro hd
      rw [hd] at h
      simp [lk] at h
    | succ i =>
      have h' : lk (outH H os rs) t = none := by
        cases hd : o.dst with
        | none => rw [hd] at h; exact h
        | some d =>
          rw [hd] at h
          simp only [lk] at h
          by_cases e : d = t
          · subst e; simp at h
          · rw [beqf e] at h; exact h
      exact lk_outH_none h' i o' (by simpa using hi) (by simpa using ho)
  | [], rs, h, i, o', hi, ho => by simp at ho
  | _ :: _, [], h, i, o', hi, ho => by simp at hi

theorem HDone.frm (ok : OkAll n ss l (rows.map HRow.sh)) (h : HDone l n Wd ss L0 rows H a w) : Frm a n (outH H l rows ++ L0) := by
  refine ⟨h.frame, h.defers, fun t v ht => ?_⟩
  rw [lk_append] at ht
  cases ho : lk (outH H l rows) t with
  | some u =>
    rw [ho] at ht
    simp at ht
    subst ht
    obtain ⟨i, o, r, h1, h2, h3, h4⟩ := lk_outH ho
    rw [h4]
    exact h.done i o r t h1 h2 h3
  | none =>
    rw [ho] at ht
    refine h.rest t v ht fun i o hio => ?_
    have hi : i < l.length := by
      rcases Nat.lt_or_ge i l.length with h' | h'
      · exact h'
      · simp [List.getElem?_eq_none h'] at hio
    exact lk_outH_none ho i o (by have := ok.len; rw [List.length_map] at this; rw [this]; exact hi) hio

/-- the rule -/
theorem region_hist {rows : List HRow} {id : Nat} (hm : P.follows .mixedOrders = true) (Wd : Nat → (Nat → Value) → World → Prop) (ss : List Nat) (hok : okAllH n ss l rows = true) (hF : Frm a n L0) (h0 : ∀ H, Wd 0 H { w with drawn := w.drawn + 1 })
    (hobs : HObs P n Wd ss L0 rows 0 l rows)
    (hend : ∀ a' w' H, Wd ss.length H w' → Frm a' n (outH H l rows ++ L0) → Q .normal a' w') :
    (Code.region id l.toArray true).wp P Q a w := by
  simp only [okAllH, Bool.and_eq_true] at hok
  have ok := OkAll.of hok.1
  refine wp_region_any hm ?_
  refine planH_main ok (okHs.of hok.2) hobs (fun H a' w' hd => hend a' w' H hd.wd (hd.frm ok)) _ _ 0 (fun _ => undef) _ _ ?_ ?_
  · have h0' : ∀ j, (Array.replicate l.toArray.size false).getD j false = false := by
      intro j
      simp only [Array.getD_eq_getD_getElem?, Array.getElem?_replicate]
      split <;> rfl
    refine ⟨by simp, fun i o _ h => ?_, by omega, fun k s _ => ?_, hF.size, hF.defers, h0 _, fun i o r d _ _ h => ?_, fun s v hs _ => hF.get s v hs⟩
    · rw [h0'] at h; simp at h
    · rw [h0']; simp
    · rw [h0'] at h; simp at h
  · unfold left
    have := List.countP_le_length (l := List.range l.length) (p := fun i => !(Array.replicate l.toArray.size false).getD i false)
    simpa using this
end Go.Mi
namespace Go.Mi
open Go.RowKit

/-! values, said shortly -/
abbrev vP (b o : Nat) : Value := .pointer (some ⟨b, o, none⟩)
abbrev vp (b : Nat) : Value := .pointer (some ⟨b, 0, none⟩)
abbrev vI (n : Int) : Value := .int .i64 n
abbrev vB (b : Bool) : Value := .bool b
abbrev vt : Value := .bool true
abbrev vf : Value := .bool false
abbrev vS (b o l c : Nat) : Value := .slice (some ⟨b, o, none⟩) l c
abbrev vN : Value := .slice none 0 0

/-- some blocks change, the others are as they were -/
structure Ch (Y : List Nat) (w w' : World) : Prop where
  os : w'.os = w.os
  tape : w'.tape = w.tape
  output : w'.output = w.output
  size : w.heap.size ≤ w'.heap.size
  blk : ∀ b, b < w.heap.size → b ∉ Y → w'.heap[b]? = w.heap[b]?

theorem Ch.lt {Y : List Nat} {w w' : World} {b : Nat} (k : Ch Y w w') (h : b < w.heap.size) : b < w'.heap.size := Nat.lt_of_lt_of_le h k.size
theorem Ch.refl (Y : List Nat) (w : World) : Ch Y w w := ⟨rfl, rfl, rfl, Nat.le_refl _, fun _ _ _ => rfl⟩
theorem Ch.trans {Y : List Nat} {a b c : World} (h : Ch Y a b) (k : Ch Y b c) : Ch Y a c :=
  ⟨k.os.trans h.os, k.tape.trans h.tape, k.output.trans h.output, Nat.le_trans h.size k.size, fun i hi hn => (k.blk i (Nat.lt_of_lt_of_le hi h.size) hn).trans (h.blk i hi hn)⟩
theorem Ch.mono {Y Y' : List Nat} {a b : World} (h : Ch Y a b) (hs : ∀ y, y ∈ Y → y ∈ Y') : Ch Y' a b :=
  ⟨h.os, h.tape, h.output, h.size, fun i hi hn => h.blk i hi fun hm => hn (hs i hm)⟩
/-- of what came after, nothing is said -/
theorem Ch.drop {Y Y' : List Nat} {a b : World} (h : Ch Y a b) (hs : ∀ y, y ∈ Y → y ∈ Y' ∨ a.heap.size ≤ y) : Ch Y' a b :=
  ⟨h.os, h.tape, h.output, h.size, fun i hi hn => h.blk i hi fun hm => by rcases hs i hm with h | h; exact hn h; omega⟩
theorem Gr.ch {w w' : World} (h : Gr w w') : Ch [] w w' := ⟨h.os, h.tape, h.output, h.size, fun b hb _ => h.block b hb⟩
theorem Ch.gr {w w' : World} (h : Ch [] w w') : Gr w w' := ⟨h.os, h.tape, h.output, h.size, fun b hb => h.blk b hb (by simp)⟩
theorem Ch.below {Y : List Nat} {n : Nat} {w w' : World} (h : Ch Y w w') (hn : n ≤ w.heap.size) (hy : ∀ y, y ∈ Y → n ≤ y) : Below n w w' :=
  ⟨h.os, h.tape, h.output, h.size, fun b hb => h.blk b (by omega) fun hm => by have := hy b hm; omega⟩
theorem NewB.ch {w w' : World} {b : Nat} {c : Array Value} {t : TypeId} (h : NewB w w' b c t) : Ch [] w w' := by
  obtain ⟨rfl, rfl⟩ := h
  exact Gr.ch ((Below.refl w.heap.size w).alloc (Nat.le_refl _) _)
theorem Upd.ch {w w' : World} {b : Nat} {c : Array Value} {t : TypeId} (h : Upd w w' b c t) : Ch [b] w w' :=
  ⟨h.os, h.tape, h.output, by rw [h.size]; exact Nat.le_refl _, fun k _ hn => h.other k (by simpa using hn)⟩

/-- what is at a place, one cell behind the other -/
def At (w : World) (b o : Nat) (vs : List Value) : Prop := ∀ i u, vs[i]? = some u → w.cell? ⟨b, o + i, none⟩ = some u
theorem At.mv {w w' : World} {Y : List Nat} {b o : Nat} {vs : List Value} (h : At w b o vs) (k : Ch Y w w') (hb : b ∉ Y) : At w' b o vs := fun i u hu => by
  have h1 := h i u hu
  have h2 := World.block_lt_of_cell? w _ h1
  have h3 := k.blk b h2 hb
  simpa [World.cell?, h3] using h1
theorem At.of_blk {w : World} {b : Nat} {c : Array Value} {t : TypeId} {f : Nat × Nat} (h : w.heap[b]? = some (.cells c t f)) : At w b 0 c.toList := fun i u hu => by
  rw [cell_blk h, Nat.zero_add]
  simpa using hu
theorem At.app {w : World} {b o : Nat} {xs ys : List Value} : At w b o (xs ++ ys) ↔ At w b o xs ∧ At w b (o + xs.length) ys := by
  constructor
  · intro h
    refine ⟨fun i u hu => h i u ?_, fun i u hu => ?_⟩
    · have hl : i < xs.length := by
        rcases Nat.lt_or_ge i xs.length with h' | h'
        · exact h'
        · simp [List.getElem?_eq_none h'] at hu
      rw [List.getElem?_append_left hl]; exact hu
    · have := h (xs.length + i) u (by rw [List.getElem?_append_right (by omega), Nat.add_sub_cancel_left]; exact hu)
      rwa [← Nat.add_assoc] at this
  · rintro ⟨h1, h2⟩ i u hu
    rcases Nat.lt_or_ge i xs.length with h' | h'
    · rw [List.getElem?_append_left h'] at hu; exact h1 i u hu
    · rw [List.getElem?_append_right h'] at hu
      have := h2 (i - xs.length) u hu
      rwa [show o + xs.length + (i - xs.length) = o + i by omega] at this
theorem At.lt {w : World} {b o : Nat} {v : Value} {vs : List Value} (h : At w b o (v :: vs)) : b < w.heap.size := World.block_lt_of_cell? w _ (h 0 v rfl)

section
variable {P : Program} {n : Nat} {L : List (Nat × Value)} {w : World} {ds : Option Nat} {ty : TypeId} {pos : String} {af : Array Edge} {gu : Option (Nat × Bool)}

/-- a structure or an array is read -/
theorem d_loadC {x : Operand} {t : TypeId} {d : TypeDesc} {b o m : Nat} {vs : List Value} (ht : P.underlying t = some d) (hf : TypeDesc.flat d = false) (hs : (P.info? t).map (·.size) = some m) (hx : ev L x = some (.pointer (some ⟨b, o, none⟩)))
    (hb : At w b o vs) (hc : vs.length = m) : Det P ⟨ds, .load t x, ty, pos, af, gu⟩ n L w (.agg vs.toArray) w :=
  Det.of_run fun a hF => by
    obtain ⟨inf, hi, hz⟩ := Option.map_eq_some_iff.1 hs
    have hag : (isAgg t).run P w = .ok true w := by
      simp only [isAgg, Sem.run_bind, run_underlying' ht, Result.andThen_ok]
      cases d <;> simp_all [TypeDesc.flat]
    have hl := run_loadCells_list (P := P) w ⟨b, o, none⟩ vs (fun j v hj => by rw [add_none]; exact hb j v hj)
    subst hc
    simp [execOp, hF.eval hx, Instr.loadAt, Instr.sureAddr, loadVar, hag, sizeOf, typeInfo, hi, hz, hl]

/-- the address of a field -/
theorem d_fieldAddr {x : Operand} {s : TypeId} {fs : Array Field} {f : Nat} {fd : Field} {b o m : Nat} (hs : P.underlying s = some (.struct fs)) (hf : fs[f]? = some fd) (hm : (P.info? fd.type).map (·.size) = some (m + 1)) (hx : ev L x = some (.pointer (some ⟨b, o, none⟩))) :
    Det P ⟨ds, .fieldAddr s x f, ty, pos, af, gu⟩ n L w (.pointer (some ⟨b, o + fd.offset, none⟩)) w :=
  Det.of_run fun a hF => by
    obtain ⟨inf, hi, hz⟩ := Option.map_eq_some_iff.1 hm
    simp [execOp, hF.eval hx, Instr.fieldAt, Instr.sureAddr, run_underlying' hs, hf, fieldPlace, sizeOf, typeInfo, hi, hz, add_none]

theorem run_part1 {t : TypeId} {d : TypeDesc} {cs : Array Value} {off : Nat} {v : Value} (ht : P.underlying t = some d) (hf : TypeDesc.flat d = true) (hv : cs[off]? = some v) : (part t cs off).run P w = .ok v w := by
  simp [part, run_isAgg_flat ht hf, hv]

/-- a field that is one cell, of a structure at hand -/
theorem d_field1 {x : Operand} {s : TypeId} {fs : Array Field} {f : Nat} {fd : Field} {d : TypeDesc} {cs : Array Value} {v : Value} (hs : P.underlying s = some (.struct fs)) (hf : fs[f]? = some fd) (ht : P.underlying fd.type = some d) (hfl : TypeDesc.flat d = true)
    (hx : ev L x = some (.agg cs)) (hv : cs[fd.offset]? = some v) : Det P ⟨ds, .field s x f, ty, pos, af, gu⟩ n L w v w :=
  Det.of_run fun a hF => by
    simp [execOp, hF.eval hx, Instr.field, run_underlying' hs, hf, asAgg, run_part1 ht hfl hv]

/-- the address of an element of a slice whose elements have m cells -/
theorem d_ixSm {x y : Operand} {k : IntKind} {T e : TypeId} {len cap b o m : Nat} {i : Int} {j : Nat} (hT : P.underlying T = some (.slice e)) (hs : (P.info? e).map (·.size) = some m) (hx : ev L x = some (.slice (some ⟨b, o, none⟩) len cap)) (hy : ev L y = some (.int k i))
    (hj : i = j) (h1 : j < len) : Det P ⟨ds, .indexAddr T x y, ty, pos, af, gu⟩ n L w (.pointer (some ⟨b, o + j * m, none⟩)) w :=
  Det.of_run fun a hF => by
    subst hj
    obtain ⟨inf, hi, hz⟩ := Option.map_eq_some_iff.1 hs
    simp [execOp, hF.eval hx, hF.eval hy, Instr.indexAt, asIntOf, run_underlying' hT, sizeOf, typeInfo, hi, hz, add_none, h1]

theorem upd_setRow {w : World} {b : Nat} {c : Array Value} {t : TypeId} (h : w.heap[b]? = some (.cells c t (0, 0))) (c' : Array Value) : Upd w (w.setRow b c') b c' t :=
  ⟨rfl, rfl, rfl, by simp [World.setRow], setRow_heap w b c c' t _ h, fun k hk => setRow_other w b k c' hk⟩

/-- cells from a place on, turned -/
def put (c : Array Value) (o : Nat) (vs : List Value) : Array Value := (c.toList.take o ++ vs ++ c.toList.drop (o + vs.length)).toArray
theorem put_size {c : Array Value} {o : Nat} {vs : List Value} (h : o + vs.length ≤ c.size) : (put c o vs).size = c.size := by
  simp [put]; omega

/-- a structure is written into an own block, from a place on -/
theorem ok_storeC {x y : Operand} {t T : TypeId} {b o m : Nat} {c : Array Value} {u : Value} (hs : (P.info? t).map (·.size) = some m) (hx : ev L x = some (.pointer (some ⟨b, o, none⟩))) (hy : ev L y = some u) (hc' : u.cells.size = m) (hv : ∀ v ∈ u.cells.toList, v.oneCell' = true)
    (hb : w.heap[b]? = some (.cells c T (0, 0))) (hc : o + m ≤ c.size) : Ok1 P ⟨ds, .store t x y, ty, pos, af, gu⟩ n L w fun _ w' => Upd w w' b (put c o u.cells.toList) T := by
  obtain ⟨inf, hi, hz⟩ := Option.map_eq_some_iff.1 hs
  have h1 := run_storeCells_at (P := P) b o T u.cells.toList 0 c w hb (by simp; omega) hv
  have hd : Det P ⟨ds, .store t x y, ty, pos, af, gu⟩ n L w undef (w.setRow b (put c o u.cells.toList)) := Det.of_skip fun a hF => by
    simp only [Nat.add_zero] at h1
    simp [execOp, hF.eval hx, hF.eval hy, Instr.storeAt, Instr.sureAddr, storeVar, sizeOf, typeInfo, hi, hz, hc', put, h1]
  refine hd.mono fun v' w'' ⟨_, hw⟩ => ?_
  subst hw
  exact upd_setRow hb _

/-- a slice that the call owns, and what is behind it -/
abbrev Own (w : World) (base : Nat) (e : TypeId) (m : Nat) (v : Value) (n : Nat) (xs : List Value) : Prop := w.ownsRow base e m v n xs
def oblk : Value → List Nat
  | .slice (some a) _ _ => [a.block]
  | _ => []
theorem Own.mv {w w' : World} {Y : List Nat} {base m n : Nat} {e : TypeId} {v : Value} {xs : List Value} (h : Own w base e m v n xs) (k : Ch Y w w') (hy : ∀ b, b ∈ oblk v → b ∉ Y) : Own w' base e m v n xs := by
  refine ⟨h.1, ?_⟩
  rcases h.2 with h2 | ⟨g, cap, cur, rfl, hg, hb, h3⟩
  · exact .inl h2
  · have hlt : g < w.heap.size := by
      rcases Nat.lt_or_ge g w.heap.size with h' | h'
      · exact h'
      · simp [Array.getElem?_eq_none h'] at hb
    exact .inr ⟨g, cap, cur, rfl, hg, by rw [k.blk g hlt (hy g (by simp [oblk]))]; exact hb, h3⟩
theorem Own.lt {w : World} {base m n : Nat} {e : TypeId} {v : Value} {xs : List Value} (h : Own w base e m v n xs) : ∀ b, b ∈ oblk v → base ≤ b ∧ b < w.heap.size := by
  intro b hb
  rcases h.2 with ⟨rfl, _⟩ | ⟨g, cap, cur, rfl, hg, hk, h3⟩
  · simp [oblk] at hb
  · simp only [oblk, List.mem_singleton] at hb
    subst hb
    refine ⟨hg, ?_⟩
    rcases Nat.lt_or_ge b w.heap.size with h' | h'
    · exact h'
    · rw [Array.getElem?_eq_none h'] at hk; cases hk
theorem Own.at {w : World} {base m n : Nat} {e : TypeId} {v : Value} {xs : List Value} (h : Own w base e m v n xs) : (v = .slice none 0 0 ∧ n = 0 ∧ xs = []) ∨ ∃ b cap, v = .slice (some ⟨b, 0, none⟩) n cap ∧ n ≤ cap ∧ At w b 0 xs := by
  rcases h.2 with ⟨rfl, rfl⟩ | ⟨g, cap, cur, rfl, hg, hk, h3, h4, h5, h6⟩
  · exact .inl ⟨rfl, rfl, List.eq_nil_of_length_eq_zero (by simpa using h.1)⟩
  · refine .inr ⟨g, cap, rfl, h3, fun i u hu => ?_⟩
    rw [cell_blk hk, Nat.zero_add, ← Array.getElem?_toList]
    rw [← h6, List.getElem?_take] at hu
    split at hu
    · exact hu
    · simp at hu

/-- append to a slice that the call owns -/
theorem ok_append {s x : Operand} {t e : TypeId} {i : TypeInfo} {z : Value} {base m bytes n' k c b o : Nat} {v : Value} {xs news : List Value} (ht : P.underlying t = some (.slice e)) (hi : P.info? e = some i) (hz : i.zero = some z)
    (hm : i.size = m) (hy : i.bytes = bytes) (hzs : z.cells.size = m) (hm0 : 0 < m) (hs : ev L s = some v) (hx : ev L x = some (.slice (some ⟨b, o, none⟩) k c)) (hown : Own w base e m v n' xs)
    (hl : news.length = k * m) (hn : At w b o news) (h1 : ∀ u ∈ news, u.oneCell' = true) (h63 : n' + k ≤ maxLen) (hby : (n' + k) * bytes ≤ 140737488355328) (hbase : base ≤ w.heap.size) :
    Ok1 P ⟨ds, .call ⟨.builtin .append, #[s, x], #[t, t]⟩, ty, pos, af, gu⟩ n L w fun v' w' => Own w' base e m v' (n' + k) (xs ++ news) ∧ Ch (oblk v) w w' ∧ (oblk v' = oblk v ∨ oblk v' = [w.heap.size]) := by
  obtain ⟨v', w', hr, h2, h3, _, h5⟩ := run_append_own_at (P := P) w base t ty e i z m bytes ht hi hz hm hy hzs hm0 v n' xs hown ⟨b, o, none⟩ k c news hl (fun j u hu => by rw [add_none]; exact hn j u hu) h1 h63 hby hbase
  have hd : Det P ⟨ds, .call ⟨.builtin .append, #[s, x], #[t, t]⟩, ty, pos, af, gu⟩ n L w v' w' := Det.of_run fun a hF => by
    simp [execOp, hF.eval hs, hF.eval hx, resolve, invoke, builtin, hr]
  refine hd.mono fun v'' w'' ⟨ha, hb⟩ => ?_
  subst ha; subst hb
  have ob : ∀ u : Value, ∀ g, u.ownBlock = some g ↔ oblk u = [g] := by
    intro u g
    cases u with
    | slice a _ _ => cases a <;> simp [Value.ownBlock, oblk]
    | _ => simp [Value.ownBlock, oblk]
  have ob0 : ∀ u : Value, u.ownBlock = none ↔ oblk u = [] := by
    intro u
    cases u with
    | slice a _ _ => cases a <;> simp [Value.ownBlock, oblk]
    | _ => simp [Value.ownBlock, oblk]
  refine ⟨h2, ⟨h3.os, h3.tape, h3.output, h3.size, fun g hg hn => h3.block g hg fun he => hn ?_⟩, ?_⟩
  · rw [(ob v g).1 he.symm]; simp
  · rcases h5 with h5 | h5
    · left
      cases hv : v.ownBlock with
      | none => rw [(ob0 v).1 hv, (ob0 v'').1 (h5.trans hv)]
      | some g => rw [(ob v g).1 hv, (ob v'' g).1 (h5.trans hv)]
    · right; exact (ob v'' _).1 h5
end
end Go.Mi
