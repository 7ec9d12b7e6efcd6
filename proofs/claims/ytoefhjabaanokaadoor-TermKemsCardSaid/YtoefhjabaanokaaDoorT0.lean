/- What package term computes, in plain Lean: terms as data, their texts, what is built and opened. Definitions and small laws. -/
import Derived.Lib.Join
import Derived.Lib.ItoaNum
namespace Go.Mi.Term
inductive Tm where
  | mk (kind name : Int) (kids : List Tm)
def Tm.kind : Tm → Int | .mk k _ _ => k
def Tm.name : Tm → Int | .mk _ n _ => n
def Tm.kids : Tm → List Tm | .mk _ _ ks => ks
abbrev Tx := List UInt8

mutual
def cnt : Tm → Nat → Nat
  | .mk _ _ ks, n => cntL ks (n + 1)
def cntL : List Tm → Nat → Nat
  | [], n => n
  | k :: ks, n => if 5000 < n then n else cntL ks (cnt k n)
end
mutual
theorem cnt_le : (t : Tm) → (n : Nat) → cnt t n ≤ max (n + 1) 5001
  | .mk _ _ ks, n => by simp only [cnt]; have := cntL_le ks (n + 1); omega
theorem cntL_le : (ks : List Tm) → (n : Nat) → cntL ks n ≤ max n 5001
  | [], n => by simp only [cntL]; omega
  | k :: ks, n => by
    simp only [cntL]
    split
    · omega
    · have h1 := cnt_le k n
      have h2 := cntL_le ks (cnt k n)
      omega
end
def size (t : Tm) : Nat := min (cnt t 0) 5001

def low (k : Int) : Nat := if k = 1 then 0 else if k = 2 ∨ k = 6 then 1 else 2
def high (k : Int) : Nat := if k = 1 then 0 else if k = 2 then 1 else if k = 6 then 8 else 2
/-- a kind and a name that may be -/
def named (k n : Int) : Bool := decide (1 ≤ k ∧ k ≤ 9) && (!decide (k = 1) || decide (0 ≤ n ∧ n ≤ 1073741824))
mutual
def shaped : Tm → Nat → Bool
  | .mk k n ks, d => named k n && decide (d < 100 ∧ low k ≤ ks.length ∧ ks.length ≤ high k) && shapedL ks (d + 1)
def shapedL : List Tm → Nat → Bool
  | [], _ => true
  | k :: ks, d => shaped k d && shapedL ks d
end
def may (t : Tm) : Bool := decide (size t ≤ 5000) && shaped t 0

/-- a kind's word -/
def word (k : Int) : Tx :=
  if k = 1 then [110] else if k = 2 then [112, 117, 98] else if k = 3 then [100, 104] else if k = 4 then [107, 101, 109] else if k = 5 then [99, 116] else
  if k = 6 then [104] else if k = 7 then [101, 110, 99] else if k = 8 then [115, 105, 103] else if k = 9 then [112, 97, 105, 114] else []
def lessTx : Tx → Tx → Bool
  | _, [] => false
  | [], _ :: _ => true
  | a :: x, b :: y => a < b || (a == b && lessTx x y)
/-- texts of kids, as they are written -/
def rowed (k : Int) (l : List Tx) : List Tx :=
  if k = 3 then (match l with
    | a :: b :: r => if lessTx b a then b :: a :: r else l
    | _ => l) else l
/-- a text of a kind, a name and the texts of kids -/
def wtn (k n : Int) (l : List Tx) : Tx := if k = 1 then word k ++ Lib.itoa n else word k ++ [40] ++ Lib.join (rowed k l) [44] ++ [41]
mutual
def txt : Tm → Tx
  | .mk k n ks => wtn k n (txtL ks)
def txtL : List Tm → List Tx
  | [] => []
  | k :: ks => txt k :: txtL ks
end
theorem txtL_map (ks : List Tm) : txtL ks = ks.map txt := by
  induction ks with
  | nil => rfl
  | cons k ks ih => simp [txtL, ih]
/-! a term as its node says it: no name but an atom of its own -/
mutual
def nrm : Tm → Tm
  | .mk k n ks => .mk k (if k = 1 then n else 0) (nrmL ks)
def nrmL : List Tm → List Tm
  | [] => []
  | k :: ks => nrm k :: nrmL ks
end

/-! ### what is told of texts -/
abbrev Told := List (Tx × Int)
def tl : Told → Tx → Int
  | [], _ => 0
  | (y, v) :: m, x => if y = x then v else tl m x
def st : Told → Tx → Int → Told
  | [], x, v => [(x, v)]
  | (y, u) :: m, x, v => if y = x then (y, v) :: m else (y, u) :: st m x v

/-! ### building -/
structure Wd where
  dh : Bool
  kem : Bool
def pubOf (t : Tm) : Tm := .mk 2 0 [t]
def two (k : Int) (a b : Tm) : Tm := .mk k 0 [a, b]
/-- lists of which one must be built whole -/
def ways (W : Wd) : Tm → List (List Tm)
  | .mk k _ ks =>
    if k = 1 then [] else
    if k = 3 then (match ks with
      | a :: b :: _ => [[a, pubOf b], [b, pubOf a]] ++ (if W.dh then [[pubOf a, pubOf b]] else [])
      | _ => []) else
    if k = 4 then (match ks with
      | a :: m :: _ => [[m, pubOf a], [a, .mk 5 0 ks]] ++ (if W.kem then [[.mk 5 0 ks]] else [])
      | _ => []) else
    if k = 5 then (match ks with
      | a :: m :: _ => [[m, pubOf a]]
      | _ => []) else [ks]
mutual
/-- are all of a list built? with what is told behind it; none: more steps than so many -/
def bl (W : Wd) (met : Told) : Nat → List Tm → Told → Option (Bool × Told)
  | 0, _, _ => none
  | _ + 1, [], m => some (true, m)
  | f + 1, n :: l, m =>
    let x := txt n
    match (if tl m x = 0 then
        (let m2 := st m x 2
         if 0 < tl met x then some (st m2 x 1) else
         match anyOf W met f (ways W n) m2 with
         | none => none
         | some (true, m3) => some (st m3 x 1)
         | some (false, m3) => some m3)
      else some m) with
    | none => none
    | some m4 => if tl m4 x = 2 then some (false, m4) else bl W met f l m4
/-- is one list of some built? -/
def anyOf (W : Wd) (met : Told) : Nat → List (List Tm) → Told → Option (Bool × Told)
  | 0, _, _ => none
  | _ + 1, [], m => some (false, m)
  | f + 1, l :: r, m => match bl W met f l m with
    | none => none
    | some (true, m') => some (true, m')
    | some (false, m') => anyOf W met f r m'
end
/-- nodes, each once, and the texts met -/
structure Rw where
  l : List Tm
  met : Told
def Rw.add (r : Rw) (n : Tm) : Rw := if tl r.met (txt n) = 0 then ⟨r.l ++ [n], st r.met (txt n) 1⟩ else r
/-- what opening a node tells -/
def opn1 (W : Wd) (met : Told) (f : Nat) : Tm → Told → Rw → Option (Told × Rw)
  | .mk k _ ks, m, r =>
    if k = 9 then (match ks with
      | a :: b :: _ => some (m, (r.add a).add b)
      | _ => none) else
    if k = 8 then (match ks with
      | _ :: b :: _ => some (m, r.add b)
      | _ => none) else
    if k = 7 then (match ks with
      | a :: b :: _ => (match bl W met f [a] m with
        | none => none
        | some (true, m') => some (m', r.add b)
        | some (false, m') => some (m', r))
      | _ => none) else some (m, r)
def opnL (W : Wd) (met : Told) (f : Nat) : List Tm → Told → Rw → Option (Told × Rw)
  | [], m, r => some (m, r)
  | t :: ts, m, r => match opn1 W met f t m r with
    | none => none
    | some (m', r') => opnL W met f ts m' r'
def rounds (W : Wd) (f : Nat) : Nat → Rw → Option Rw
  | 0, _ => none
  | g + 1, r => match opnL W r.met f r.l [] r with
    | none => none
    | some (_, r') => if r'.l.length = r.l.length then some r' else rounds W f g r'
def firstL : List Tm → Rw → Rw
  | [], r => r
  | t :: ts, r => firstL ts (if may t then r.add (nrm t) else r)
def opens (W : Wd) (f g : Nat) (known : List Tm) : Option Rw := rounds W f g (firstL known ⟨[], []⟩)
def knows (W : Wd) (f g : Nat) (known : List Tm) (t : Tm) : Option Bool :=
  if may t then (match opens W f g known with
    | none => none
    | some r => (bl W r.met f [nrm t] []).map (·.1)) else some false
end Go.Mi.Term
