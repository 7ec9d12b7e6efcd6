/- A region whose order is open: what each operation yields, said once, whatever the order. General lemmas. -/
import Derived.Test.YtoefhjabaanokaaDoorA3
namespace Go.Mi
open Go.RowKit

/-- all that was there is as it was -/
abbrev Gr (w w' : World) : Prop := Below w.heap.size w w'
theorem Gr.refl (w : World) : Gr w w := Below.refl _ _
theorem Gr.trans {a b c : World} (h : Gr a b) (k : Gr b c) : Gr a c := Below.trans h (k.mono h.size)

/-- what an operation yields: a value, or something of which a lasting fact is known -/
inductive PS (G : World → World → Prop) where
  | val (v : Value)
  | rel (F : Value → World → Prop) (st : ∀ v w w', F v w → G w w' → F v w')
section
variable {G : World → World → Prop}
def PS.holds : PS G → Value → World → Prop
  | .val x, v, _ => v = x
  | .rel F _, v, w => F v w
def PS.entry : PS G → Value → Value
  | .val x, _ => x
  | .rel _ _, v => v
theorem PS.holds_mono {s : PS G} {v : Value} {w w' : World} (h : s.holds v w) (g : G w w') : s.holds v w' := by
  cases s with
  | val x => exact h
  | rel F st => exact st v w w' h g
theorem PS.entry_eq {s : PS G} {v : Value} {w : World} (h : s.holds v w) : s.entry v = v := by
  cases s with
  | val x => exact h.symm
  | rel F st => rfl
end

/-- of one operation: the operations that it builds on; the slots of before that it reads; behind how many stores it may come; what it yields -/
structure Row (G : World → World → Prop) where
  us : List (Nat × Nat)
  zs : List (Nat × Value)
  ph : List Nat
  out : PS G

def memN (i : Nat) : List Nat → Bool
  | [] => false
  | x :: r => bif Nat.beq i x then true else memN i r

/-- masks of all operations that go ahead, for each -/
def befs : List Oper → List Nat → List Nat
  | [], acc => acc
  | o :: r, acc => befs r (acc ++ [o.after.toList.foldl (fun s e => if Region.binds .any e then s ||| 2 ^ e.on ||| acc.getD e.on 0 else s) 0])

inductive Ahead (l : List Oper) : Nat → Nat → Prop where
  | edge {i : Nat} {o : Oper} {e : Edge} : l[i]? = some o → e ∈ o.after.toList → Region.binds .any e = true → Ahead l i e.on
  | trans {i j k : Nat} : Ahead l i j → Ahead l j k → Ahead l i k

theorem befs_ok (l : List Oper) : ∀ (r : List Oper) (acc : List Nat), (∀ j o, r[j]? = some o → l[acc.length + j]? = some o) → (∀ i j, (acc.getD i 0).testBit j = true → Ahead l i j) →
    ∀ i j, ((befs r acc).getD i 0).testBit j = true → Ahead l i j
  | [], acc, _, h => h
  | o :: r, acc, hl, h => by
    have ho : l[acc.length]? = some o := by simpa using hl 0 o (by simp)
    refine befs_ok l r _ (fun j o' hj => by simpa [Nat.add_assoc, Nat.add_comm 1 j] using hl (j + 1) o' (by simpa using hj)) ?_
    intro i j hb
    by_cases hi : i < acc.length
    · rw [List.getD_eq_getElem?_getD, List.getElem?_append_left hi] at hb
      exact h i j (by rwa [List.getD_eq_getElem?_getD])
    · by_cases hi' : i = acc.length
      · subst hi'
        simp only [List.getD_eq_getElem?_getD, List.getElem?_append_right (Nat.le_refl _), Nat.sub_self, List.getElem?_cons_zero, Option.getD_some] at hb
        have key : ∀ (es : List Edge) (s : Nat), (∀ e ∈ es, e ∈ o.after.toList) → (∀ j, s.testBit j = true → Ahead l acc.length j) →
            ∀ j, (es.foldl (fun s e => if Region.binds .any e then s ||| 2 ^ e.on ||| acc[e.on]?.getD 0 else s) s).testBit j = true → Ahead l acc.length j := by
          intro es
          induction es with
          | nil => intro s _ hs; exact hs
          | cons e es ih =>
            intro s hes hs
            simp only [List.foldl_cons]
            refine ih _ (fun e' he' => hes e' (List.mem_cons_of_mem _ he')) ?_
            intro j hj
            split at hj
            · rename_i hbd
              have hedge : Ahead l acc.length e.on := .edge ho (hes e (List.mem_cons_self ..)) hbd
              simp only [Nat.testBit_or, Bool.or_eq_true] at hj
              rcases hj with (hj | hj) | hj
              · exact hs j hj
              · rw [Nat.testBit_two_pow] at hj
                have : e.on = j := by simpa using hj
                exact this ▸ hedge
              · exact .trans hedge (h e.on j (by rwa [List.getD_eq_getElem?_getD]))
            · exact hs j hj
        exact key _ 0 (fun e he => he) (by simp) j hb
      · have : (acc ++ [o.after.toList.foldl (fun s e => if Region.binds .any e then s ||| 2 ^ e.on ||| acc.getD e.on 0 else s) 0]).getD i 0 = 0 := by
          rw [List.getD_eq_getElem?_getD, List.getElem?_eq_none (by simp; omega)]; rfl
        rw [this] at hb
        simp at hb

section
variable {G : World → World → Prop}
/-- can operation i come when just p of the stores are done? -/
def mayAt (B : List Nat) (ss : List Nat) (i p : Nat) : Bool :=
  ss.zipIdx.all fun q => bif Nat.blt q.2 p then !(B.getD q.1 0).testBit i && !(Nat.beq q.1 i) else !(B.getD i 0).testBit q.1
/-- the checks by computing: edges go back; slots are each written once, and lie in the frame; what is used goes ahead; what is read of before is written later, if at all; the stores have an order -/
def okRow (l : List Oper) (B : List Nat) (ss : List Nat) (i : Nat) (o : Oper) (r : Row G) : Bool :=
  r.us.all (fun p => (B.getD i 0).testBit p.1 && (match l[p.1]? with | some o' => o'.dst == some p.2 | none => false)) &&
  r.zs.all (fun p => l.zipIdx.all fun q => q.1.dst != some p.1 || q.2 == i || (B.getD q.2 0).testBit i) &&
  (match o.guard with | none => true | some (j, _) => r.us.any fun p => p.1 == j) &&
  (List.range (ss.length + 1)).all (fun p => !mayAt B ss i p || memN p r.ph)
def okRows (l : List Oper) (B : List Nat) (ss : List Nat) : Nat → List Oper → List (Row G) → Bool
  | _, [], [] => true
  | i, o :: os, r :: rs => okRow l B ss i o r && okRows l B ss (i + 1) os rs
  | _, _, _ => false
def okAll (n : Nat) (ss : List Nat) (l : List Oper) (rows : List (Row G)) : Bool :=
  let B := befs l []
  (l.zipIdx.all fun q => q.1.after.toList.all fun e => !(Region.binds .any e) || Nat.blt e.on q.2) &&
  (l.all fun o => match o.dst with | some d => Nat.blt d n | none => true) &&
  (l.zipIdx.all fun q => l.zipIdx.all fun q' => q.2 == q'.2 || q.1.dst == none || q.1.dst != q'.1.dst) &&
  (ss.zipIdx.all fun q => Nat.blt q.1 l.length && ss.zipIdx.all fun q' => !(Nat.blt q.2 q'.2) || (B.getD q'.1 0).testBit q.1) &&
  okRows l B ss 0 l rows

/-- the frame of one operation -/
def Row.fr (rows : List (Row G)) (r : Row G) (vs : Nat → Value) : List (Nat × Value) :=
  r.us.map (fun p => (p.2, ((rows[p.1]?).map (·.out.entry (vs p.1))).getD (vs p.1))) ++ r.zs

/-- what is to be shown of one operation -/
def Ob (P : Program) (n : Nat) (Wd : Nat → World → Prop) (ss : List Nat) (L0 : List (Nat × Value)) (rows : List (Row G)) (i : Nat) (o : Oper) (r : Row G) : Prop :=
  subL L0 r.zs ∧ ∀ (p : Nat), memN p r.ph = true → ∀ (vs : Nat → Value) (w : World), Wd p w → (∀ u ∈ r.us, ∀ r', rows[u.1]? = some r' → r'.out.holds (vs u.1) w) →
    match o.guard with
    | none => Ok1 P o n (r.fr rows vs) w fun v w' => Wd (bif memN i ss then p + 1 else p) w' ∧ G w w' ∧ r.out.holds v w'
    | some (j, b) => ∃ c rj, rows[j]? = some rj ∧ rj.out = .val (.bool c) ∧ (if c = b then Ok1 P o n (r.fr rows vs) w fun v w' => Wd (bif memN i ss then p + 1 else p) w' ∧ G w w' ∧ r.out.holds v w' else memN i ss = false ∧ r.out.holds undef w)

def Obs (P : Program) (n : Nat) (Wd : Nat → World → Prop) (ss : List Nat) (L0 : List (Nat × Value)) (rows : List (Row G)) : Nat → List Oper → List (Row G) → Prop
  | i, o :: os, r :: rs => Ob P n Wd ss L0 rows i o r ∧ Obs P n Wd ss L0 rows (i + 1) os rs
  | _, _, _ => True

variable {P : Program} {n : Nat} {Wd : Nat → World → Prop} {ss : List Nat} {L0 : List (Nat × Value)} {rows : List (Row G)}

theorem Obs.at : ∀ {os : List Oper} {rs : List (Row G)} {k : Nat}, Obs P n Wd ss L0 rows k os rs → ∀ (i : Nat) (o : Oper) (r : Row G), os[i]? = some o → rs[i]? = some r → Ob P n Wd ss L0 rows (k + i) o r
  | o :: os, r :: rs, k, h, 0, o', r', h1, h2 => by simp at h1 h2; subst h1; subst h2; exact h.1
  | o :: os, r :: rs, k, h, i + 1, o', r', h1, h2 => by
    have := Obs.at h.2 i o' r' (by simpa using h1) (by simpa using h2)
    rwa [show k + 1 + i = k + (i + 1) by omega] at this
  | [], rs, _, _, i, o', r', h1, _ => by simp at h1
  | _ :: _, [], _, _, i, o', r', _, h2 => by simp at h2

theorem okRows.at {l : List Oper} {B : List Nat} : ∀ {os : List Oper} {rs : List (Row G)} {k : Nat}, okRows l B ss k os rs = true → ∀ (i : Nat) (o : Oper) (r : Row G), os[i]? = some o → rs[i]? = some r → okRow l B ss (k + i) o r = true
  | o :: os, r :: rs, k, h, 0, o', r', h1, h2 => by simp at h1 h2; subst h1; subst h2; simp [okRows] at h; exact h.1
  | o :: os, r :: rs, k, h, i + 1, o', r', h1, h2 => by
    simp only [okRows, Bool.and_eq_true] at h
    have := okRows.at h.2 i o' r' (by simpa using h1) (by simpa using h2)
    rwa [show k + 1 + i = k + (i + 1) by omega] at this
  | [], rs, _, _, i, o', r', h1, _ => by simp at h1
  | _ :: _, [], _, _, i, o', r', _, h2 => by simp at h2

theorem okRows.len {l : List Oper} {B : List Nat} : ∀ {os : List Oper} {rs : List (Row G)} {k : Nat}, okRows l B ss k os rs = true → rs.length = os.length
  | o :: os, r :: rs, k, h => by
    simp only [okRows, Bool.and_eq_true] at h
    simp [okRows.len h.2]
  | [], [], _, _ => rfl
  | [], _ :: _, _, h => by simp [okRows] at h
  | _ :: _, [], _, h => by simp [okRows] at h

/-- the state in the middle of a region -/
structure PInv (l : List Oper) (n : Nat) (Wd : Nat → World → Prop) (ss : List Nat) (L0 : List (Nat × Value)) (rows : List (Row G)) (listed : Array Bool) (p : Nat) (a : Act) (w : World) : Prop where
  size : listed.size = l.length
  closed : ∀ i o, l[i]? = some o → listed.getD i false = true → ∀ e ∈ o.after.toList, Region.binds .any e = true → listed.getD e.on false = true
  ple : p ≤ ss.length
  phase : ∀ k s, ss[k]? = some s → (listed.getD s false = true ↔ k < p)
  frame : a.tmps.size = n
  defers : a.defers = []
  wd : Wd p w
  done : ∀ i o r d, l[i]? = some o → rows[i]? = some r → listed.getD i false = true → o.dst = some d → r.out.holds (a.tmps.getD d undef) w
  rest : ∀ s v, lk L0 s = some v → (∀ i o, l[i]? = some o → o.dst = some s → listed.getD i false = false) → a.tmps.getD s undef = v

variable {l : List Oper} {listed : Array Bool} {p : Nat} {a : Act} {w : World}

theorem PInv.ahead (h : PInv l n Wd ss L0 rows listed p a w) {i j : Nat} (ha : Ahead l i j) : listed.getD i false = true → listed.getD j false = true := by
  induction ha with
  | edge h1 h2 h3 => exact fun hi => h.closed _ _ h1 hi _ h2 h3
  | trans _ _ ih1 ih2 => exact fun hi => ih2 (ih1 hi)

theorem ready_ahead (h : PInv l n Wd ss L0 rows listed p a w) {i : Nat} (hr : i ∈ Region.ready .any l.toArray listed) {j : Nat} (ha : Ahead l i j) : listed.getD j false = true := by
  simp only [Region.ready, List.mem_filter, List.mem_range, Bool.and_eq_true] at hr
  obtain ⟨hi, _, hall⟩ := hr
  have direct : ∀ (o : Oper) (e : Edge), l[i]? = some o → e ∈ o.after.toList → Region.binds .any e = true → listed.getD e.on false = true := by
    intro o e ho he hb
    simp only [List.getElem?_toArray, ho, Option.map_some, Option.getD_some, Array.all_eq_true'] at hall
    have := hall e (by simpa using he)
    simpa [hb] using this
  have key : ∀ i' j', Ahead l i' j' → i' = i → listed.getD j' false = true := by
    intro i' j' ha'
    induction ha' with
    | edge h1 h2 h3 => intro e; subst e; exact direct _ _ h1 h2 h3
    | trans h1 h2 ih1 ih2 => exact fun e => h.ahead h2 (ih1 e)
  exact key i j ha rfl
end
end Go.Mi
