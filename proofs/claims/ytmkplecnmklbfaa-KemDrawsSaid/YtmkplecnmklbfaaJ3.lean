/- General lemmas, walks. -/
import Derived.Test.YtmkplecnmklbfaaJ2
set_option linter.unusedSimpArgs false
set_option linter.unusedVariables false
set_option linter.unnecessarySimpa false
namespace Go.Sx
open Go.Mi Go.RowKit
section
variable {P : Program} {n : Nat} {L : List (Nat × Value)} {w : World} {ds : Option Nat} {ty : TypeId} {pos : String} {af : Array Edge} {gu : Option (Nat × Bool)} {x y : Operand} {t t' : TypeId}
theorem d_ixA {k : IntKind} {e : TypeId} {len b o m : Nat} {i : Int} (hT : P.underlying t = some (.array len e)) (hs : (P.info? e).map (·.size) = some m) (hx : ev L x = some (.pointer (some ⟨b, o, none⟩))) (hy : ev L y = some (.int k i))
    (h0 : 0 ≤ i) (h1 : i < len) : Det P ⟨ds, .indexAddr t x y, ty, pos, af, gu⟩ n L w (.pointer (some ⟨b, o + i.toNat * m, none⟩)) w :=
  Det.of_run fun a hF => by
    obtain ⟨inf, hi, hz⟩ := Option.map_eq_some_iff.1 hs
    simp [execOp, hF.eval hx, hF.eval hy, Instr.indexAt, asIntOf, run_underlying' hT, Instr.sureAddr, h0, h1, sizeOf, typeInfo, hi, hz, add_none]
theorem d_ixS' {k : IntKind} {e : TypeId} {len cap b o m : Nat} {i : Int} (hT : P.underlying t = some (.slice e)) (hs : (P.info? e).map (·.size) = some m) (hx : ev L x = some (.slice (some ⟨b, o, none⟩) len cap)) (hy : ev L y = some (.int k i))
    (h0 : 0 ≤ i) (h1 : i < len) : Det P ⟨ds, .indexAddr t x y, ty, pos, af, gu⟩ n L w (.pointer (some ⟨b, o + i.toNat * m, none⟩)) w :=
  Det.of_run fun a hF => by
    obtain ⟨inf, hi, hz⟩ := Option.map_eq_some_iff.1 hs
    simp [execOp, hF.eval hx, hF.eval hy, Instr.indexAt, asIntOf, run_underlying' hT, h0, h1, sizeOf, typeInfo, hi, hz, add_none]
def nk : TypeDesc → Value → Value → Option Bool
  | .pointer _, .pointer a, .pointer none => some a.isNone
  | .slice _, .slice a _ _, .slice none _ _ => some a.isNone
  | .func _ _ _, .nilFunc, .nilFunc => some true
  | .func _ _ _, .func _ _ _, .nilFunc => some false
  | .interface _, .iface _ _, .nilIface => some false
  | _, _, _ => none
theorem run_nk' (m : Nat) {d : TypeDesc} {u z : Value} {b : Bool} (ht : P.underlying t = some d) (h : nk d u z = some b) : (Op.equalIn (m + 1) t u z).run P w = .ok b w := by
  unfold nk at h
  split at h <;> simp only [Option.some.injEq, reduceCtorEq] at h <;> subst h
  · rename_i e a
    cases a <;> simp [Op.equalIn, run_underlying' ht]
  · rename_i e a l c l' c'
    cases a <;> simp [Op.equalIn, run_underlying' ht]
  · simp [Op.equalIn, run_underlying' ht]
  · simp [Op.equalIn, run_underlying' ht]
  · simp [Op.equalIn, run_underlying' ht]
theorem run_nk {d : TypeDesc} {u z : Value} {b : Bool} (ht : P.underlying t = some d) (h : nk d u z = some b) : (Op.equal t u z).run P w = .ok b w := run_nk' 9999 ht h
theorem nk_guard {d : TypeDesc} {u z : Value} {b : Bool} (h : nk d u z = some b) : (binOp .eql t u z = (Op.equal t u z >>= fun r => pure (Value.bool r))) ∧ (binOp .neq t u z = (Op.equal t u z >>= fun r => pure (Value.bool !r))) ∧ ∀ op, eqGuard op t x y u z = pure () := by
  unfold nk at h
  split at h <;> simp only [Option.some.injEq, reduceCtorEq] at h <;> subst h <;> refine ⟨rfl, rfl, fun op => ?_⟩ <;> unfold eqGuard <;> split <;> rfl
theorem d_nkE {d : TypeDesc} {u z : Value} {b : Bool} (ht : P.underlying t = some d) (h : nk d u z = some b) (hx : ev L x = some u) (hy : ev L y = some z) : Det P ⟨ds, .binOp .eql t x y t', ty, pos, af, gu⟩ n L w (.bool b) w :=
  Det.of_run fun a hF => by
    obtain ⟨h1, _, h3⟩ := nk_guard (x := x) (y := y) (t := t) h
    simp [execOp, hF.eval hx, hF.eval hy, h1, h3, run_nk ht h]
theorem d_nkN {d : TypeDesc} {u z : Value} {b : Bool} (ht : P.underlying t = some d) (h : nk d u z = some b) (hx : ev L x = some u) (hy : ev L y = some z) : Det P ⟨ds, .binOp .neq t x y t', ty, pos, af, gu⟩ n L w (.bool !b) w :=
  Det.of_run fun a hF => by
    obtain ⟨_, h2, h3⟩ := nk_guard (x := x) (y := y) (t := t) h
    simp [execOp, hF.eval hx, hF.eval hy, h2, h3, run_nk ht h]
def isIfc : TypeDesc → Bool
  | .interface _ => true
  | _ => false
theorem d_mkI {d : TypeDesc} {u : Value} (ht : P.underlying t = some d) (hd : isIfc d = false) (hx : ev L x = some u) : Det P ⟨ds, .makeInterface t x, ty, pos, af, gu⟩ n L w (.iface t u) w :=
  Det.of_run fun a hF => by
    simp only [execOp, hF.eval hx, Instr.makeInterface, Sem.run_bind, run_underlying' ht, Result.andThen_ok]
    cases d <;> simp_all [isIfc]
theorem d_mkF {fn : Fn} {fs xs : Array Operand} {us vs : List Value} (hf : evs L fs.toList = some us) (hx : evs L xs.toList = some vs) : Det P ⟨ds, .makeFunc fn fs xs, ty, pos, af, gu⟩ n L w (.func fn us.toArray vs.toArray) w :=
  Det.of_run fun a hF => by
    have h1 : fs.map a.eval = us.toArray := by rw [← hF.evals hf, ← List.map_toArray]
    have h2 : xs.map a.eval = vs.toArray := by rw [← hF.evals hx, ← List.map_toArray]
    simp only [execOp, h1, h2, Instr.makeFunc]
    rfl
theorem d_nilP {ad : Addr} (hx : ev L x = some (.pointer (some ad))) : Det P ⟨ds, .nilCheck x, ty, pos, af, gu⟩ n L w (.pointer (some ad)) w :=
  Det.of_run fun _ hF => by simp [execOp, hF.eval hx]
def inot (k : IntKind) (p : Int) : Int := ixor k (if k.signed then -1 else k.max) p
theorem d_com {k : IntKind} {p : Int} (hx : ev L x = some (.int k p)) : Det P ⟨ds, .unOp .xor t x, ty, pos, af, gu⟩ n L w (.int k (inot k p)) w :=
  Det.of_run fun a hF => by
    simp [execOp, hF.eval hx, Op.unary, Op.intBits, inot, ixor]
end
end Go.Sx
namespace Go.Sx
open Go.Mi Go.RowKit
/-- an address, so many cells on -/
def addO : D → Nat → Option D
  | .cp k o, f => some (.cp k (o + f))
  | .ep k o m n i, f => some (.ep k (o + f) m n i)
  | .xp k m n i o, f => some (.xp k m n i (o + f))
  | .im d o, f => some (.im d (o + f))
  | .ip e x o, f => some (.ip e x (o + f))
  | _, _ => none
/-- the address of an element of an array -/
def addI (len m : Nat) : D → Nat → Option D
  | .cp k o, i => some (.ep k o m len i)
  | .ep k o m' n i', i => some (.ep k (o + i' * m') m len i)
  | .xp k m' n i' o, i => some (.xp k m' n i' (o + i * m))
  | .im d o, i => some (.im d (o + i * m))
  | .ip e x o, i => some (.ip e x (o + i * m))
  | _, _ => none
def isPtr : D → Bool
  | .cp .. | .ep .. | .xp .. | .im .. | .ip .. => true
  | .v (.pointer (some _)) => true
  | _ => false
def nkD : TypeDesc → D → Option Bool
  | .pointer _, .v (.pointer a) => some a.isNone
  | .pointer _, .cp .. => some false
  | .pointer _, .ep .. => some false
  | .pointer _, .xp .. => some false
  | .pointer _, .im .. => some false
  | .pointer _, .ip .. => some false
  | .slice _, .v (.slice a _ _) => some a.isNone
  | .slice _, .ls true _ _ => some false
  | .slice _, .os _ o => some o.isNone
  | .slice _, .sv .. => some false
  | .func _ _ _, .fn .. => some false
  | .func _ _ _, .v (.func ..) => some false
  | .func _ _ _, .v .nilFunc => some true
  | .interface _, .ifc .. => some false
  | .interface _, .v (.iface ..) => some false
  | _, _ => none
def isNil : TypeDesc → Value → Bool
  | .pointer _, .pointer none => true
  | .slice _, .slice none _ _ => true
  | .func _ _ _, .nilFunc => true
  | .interface _, .nilIface => true
  | _, _ => false
section
variable {g : G} {w : World}
theorem addO_ok {d d' : D} {f b o : Nat} (h : Sm g w d (vP b o)) (hd : addO d f = some d') : Sm g w d' (vP b (o + f)) := by
  cases d <;> simp only [addO, Option.some.injEq, reduceCtorEq] at hd <;> subst hd
  · obtain ⟨b', h1, h2⟩ := h
    simp only [List.cons.injEq, Value.pointer.injEq, Option.some.injEq, Addr.mk.injEq, and_true] at h2
    obtain ⟨rfl, rfl⟩ := h2
    exact ⟨b, h1, rfl⟩
  · obtain ⟨h0, b', h1, h2⟩ := h
    simp only [List.cons.injEq, Value.pointer.injEq, Option.some.injEq, Addr.mk.injEq, and_true] at h2
    obtain ⟨rfl, rfl⟩ := h2
    exact ⟨h0, b, h1, by simp; omega⟩
  · obtain ⟨h0, b', c, h1, h2⟩ := h
    simp only [List.cons.injEq, Value.pointer.injEq, Option.some.injEq, Addr.mk.injEq, and_true] at h2
    obtain ⟨rfl, rfl⟩ := h2
    exact ⟨h0, b, c, h1, by simp; omega⟩
  · obtain ⟨b', l', h1, h2, h3, h4⟩ := h
    simp only [List.cons.injEq, Value.pointer.injEq, Option.some.injEq, Addr.mk.injEq, and_true] at h3
    obtain ⟨rfl, rfl⟩ := h3
    exact ⟨b, l', h1, h2, rfl, h4⟩
  · obtain ⟨b', o0, l', h1, h2, h3, h4⟩ := h
    simp only [List.cons.injEq, Value.pointer.injEq, Option.some.injEq, Addr.mk.injEq, and_true] at h3
    obtain ⟨rfl, rfl⟩ := h3
    exact ⟨b, o0, l', h1, h2, by simp; omega, h4⟩
theorem addI_ok {d d' : D} {len m i b o : Nat} (h : Sm g w d (vP b o)) (hi : i < len) (hd : addI len m d i = some d') : Sm g w d' (vP b (o + i * m)) := by
  cases d <;> simp only [addI, Option.some.injEq, reduceCtorEq] at hd <;> subst hd
  · obtain ⟨b', h1, h2⟩ := h
    simp only [List.cons.injEq, Value.pointer.injEq, Option.some.injEq, Addr.mk.injEq, and_true] at h2
    obtain ⟨rfl, rfl⟩ := h2
    exact ⟨hi, b, h1, rfl⟩
  · obtain ⟨h0, b', h1, h2⟩ := h
    simp only [List.cons.injEq, Value.pointer.injEq, Option.some.injEq, Addr.mk.injEq, and_true] at h2
    obtain ⟨rfl, rfl⟩ := h2
    exact ⟨hi, b, h1, rfl⟩
  · obtain ⟨h0, b', c, h1, h2⟩ := h
    simp only [List.cons.injEq, Value.pointer.injEq, Option.some.injEq, Addr.mk.injEq, and_true] at h2
    obtain ⟨rfl, rfl⟩ := h2
    exact ⟨h0, b, c, h1, by simp; omega⟩
  · obtain ⟨b', l', h1, h2, h3, h4⟩ := h
    simp only [List.cons.injEq, Value.pointer.injEq, Option.some.injEq, Addr.mk.injEq, and_true] at h3
    obtain ⟨rfl, rfl⟩ := h3
    exact ⟨b, l', h1, h2, rfl, h4⟩
  · obtain ⟨b', o0, l', h1, h2, h3, h4⟩ := h
    simp only [List.cons.injEq, Value.pointer.injEq, Option.some.injEq, Addr.mk.injEq, and_true] at h3
    obtain ⟨rfl, rfl⟩ := h3
    exact ⟨b, o0, l', h1, h2, by simp; omega, h4⟩
theorem isPtr_ok {d : D} {v : Value} (h : Sm g w d v) (hp : isPtr d = true) : ∃ ad, v = .pointer (some ad) := by
  cases d with
  | v x =>
    have := h.eq
    subst this
    unfold isPtr at hp
    split at hp <;> simp_all
  | cp k o => obtain ⟨b, _, h2⟩ := h; exact ⟨_, (List.cons.inj h2).1⟩
  | ep k o m n i => obtain ⟨_, b, _, h2⟩ := h; exact ⟨_, (List.cons.inj h2).1⟩
  | xp k m n i o => obtain ⟨_, b, c, _, h2⟩ := h; exact ⟨_, (List.cons.inj h2).1⟩
  | im d o => obtain ⟨b, l', _, _, h2, _⟩ := h; exact ⟨_, (List.cons.inj h2).1⟩
  | ip e x o => obtain ⟨b, o0, l', _, _, h2, _⟩ := h; exact ⟨_, (List.cons.inj h2).1⟩
  | _ => cases hp
/-- addresses have no spot -/
theorem addO_ptr {d d' : D} {f : Nat} {v : Value} (h : Sm g w d v) (hd : addO d f = some d') : ∃ b o, v = vP b o := by
  cases d <;> simp only [addO, reduceCtorEq] at hd
  · obtain ⟨b, _, h2⟩ := h; exact ⟨_, _, (List.cons.inj h2).1⟩
  · obtain ⟨_, b, _, h2⟩ := h; exact ⟨_, _, (List.cons.inj h2).1⟩
  · obtain ⟨_, b, c, _, h2⟩ := h; exact ⟨_, _, (List.cons.inj h2).1⟩
  · obtain ⟨b, l', _, _, h2, _⟩ := h; exact ⟨_, _, (List.cons.inj h2).1⟩
  · obtain ⟨b, o0, l', _, _, h2, _⟩ := h; exact ⟨_, _, (List.cons.inj h2).1⟩
theorem addI_ptr {d d' : D} {len m i : Nat} {v : Value} (h : Sm g w d v) (hd : addI len m d i = some d') : ∃ b o, v = vP b o := by
  cases d <;> simp only [addI, reduceCtorEq] at hd
  · obtain ⟨b, _, h2⟩ := h; exact ⟨_, _, (List.cons.inj h2).1⟩
  · obtain ⟨_, b, _, h2⟩ := h; exact ⟨_, _, (List.cons.inj h2).1⟩
  · obtain ⟨_, b, c, _, h2⟩ := h; exact ⟨_, _, (List.cons.inj h2).1⟩
  · obtain ⟨b, l', _, _, h2, _⟩ := h; exact ⟨_, _, (List.cons.inj h2).1⟩
  · obtain ⟨b, o0, l', _, _, h2, _⟩ := h; exact ⟨_, _, (List.cons.inj h2).1⟩
theorem nkD_ok {td : TypeDesc} {d : D} {v z : Value} {b : Bool} (h : Sm g w d v) (hz : isNil td z = true) (hn : nkD td d = some b) : nk td v z = some b := by
  unfold isNil at hz
  split at hz
  · cases d with
    | v x =>
      have := h.eq
      subst this
      cases v <;> simp only [nkD, Option.some.injEq, reduceCtorEq] at hn
      subst hn; rfl
    | cp k o => obtain ⟨b, _, h2⟩ := h; cases (List.cons.inj h2).1; cases hn; rfl
    | ep k o m n i => obtain ⟨_, b, _, h2⟩ := h; cases (List.cons.inj h2).1; cases hn; rfl
    | xp k m n i o => obtain ⟨_, b, c, _, h2⟩ := h; cases (List.cons.inj h2).1; cases hn; rfl
    | im d o => obtain ⟨b, l', _, _, h2, _⟩ := h; cases (List.cons.inj h2).1; cases hn; rfl
    | ip e x o => obtain ⟨b, o0, l', _, _, h2, _⟩ := h; cases (List.cons.inj h2).1; cases hn; rfl
    | _ => cases hn
  · cases d with
    | v x =>
      have := h.eq
      subst this
      cases v <;> simp only [nkD, Option.some.injEq, reduceCtorEq] at hn
      subst hn; rfl
    | ls nn e xs =>
      cases nn with
      | false => cases hn
      | true =>
        cases hn
        obtain ⟨u, ls, h1, h2, _⟩ := h
        cases (List.cons.inj h1).1
        rcases h2.at' with ⟨h3, _⟩ | ⟨_, _, _, rfl, _⟩
        · cases h3
        · rfl
    | os e o =>
      cases hn
      obtain ⟨u, h1, h2⟩ := h
      cases (List.cons.inj h1).1
      cases o with
      | none => have : v = vN := h2; subst this; rfl
      | some xs =>
        obtain ⟨vs, h3, _⟩ := h2
        rcases h3.at' with ⟨h4, _⟩ | ⟨_, _, _, rfl, _⟩
        · cases h4
        · rfl
    | sv k o n => obtain ⟨b, c, _, h2, _⟩ := h; cases (List.cons.inj h2).1; cases hn; rfl
    | _ => cases hn
  · cases d with
    | v x =>
      have := h.eq
      subst this
      cases v <;> simp only [nkD, Option.some.injEq, reduceCtorEq] at hn
      all_goals subst hn; rfl
    | fn f a b => obtain ⟨_, _, _, _, h2⟩ := h; cases (List.cons.inj h2).1; cases hn; rfl
    | _ => cases hn
  · cases d with
    | v x =>
      have := h.eq
      subst this
      cases v <;> simp only [nkD, Option.some.injEq, reduceCtorEq] at hn
      all_goals subst hn; rfl
    | ifc t d => obtain ⟨_, _, h2⟩ := h; cases (List.cons.inj h2).1; cases hn; rfl
    | _ => cases hn
  · cases hz
end
end Go.Sx
namespace Go.Sx
open Go.Mi Go.RowKit
def opsD (L : DL) : List Operand → Option (List D)
  | [] => some []
  | x :: r => match opD L x, opsD L r with
    | some d, some ds => some (d :: ds)
    | _, _ => none
def nthT : D → Nat → Option D
  | .cons d ds, i => match i with
    | 0 => bif d.one then some d else none
    | i + 1 => bif d.one then nthT ds i else none
  | _, _ => none
def exIx (P : Program) (t : TypeId) (L : DL) (x y : Operand) : Option (D × List Prop) := match opD L x, opD L y with
  | some d, some (.v (.int _ i)) => (match aInf P t with
    | some (len, m) => (addI len m d i.toNat).map (·, [0 ≤ i ∧ i < (len : Int)])
    | none => (match sInf P t, d with
      | some m, .ls _ e xs => bif Nat.beq e.length m then some (.ip e (xs.getD i.toNat (rz e)) 0, [0 ≤ i ∧ i < (xs.length : Int)]) else none
      | some m, .sv k o n => bif Nat.beq m 1 then some (.ep k o 1 n i.toNat, [0 ≤ i ∧ i < (n : Int)]) else none
      | _, _ => none))
  | _, _ => none
def exBin (P : Program) (op : BinOp) (t : TypeId) (L : DL) (x y : Operand) : Option (D × List Prop) := match opD L x, opD L y with
  | some (.v (.int k p)), some (.v (.int k' q)) => binI op k p k' q
  | some (.v (.bool a)), some (.v (.bool b)) => (match P.underlying t, op with
    | some .bool, .eql => some (.v (.bool (a == b)), [])
    | some .bool, .neq => some (.v (.bool (!(a == b))), [])
    | _, _ => none)
  | some (.v (.string a)), some (.v (.string b)) => (match op with
    | .eql => some (.v (.bool (a.toList == b.toList)), [])
    | .neq => some (.v (.bool (!(a.toList == b.toList))), [])
    | _ => none)
  | some d, some (.v z) => (match P.underlying t with
    | some td => bif isNil td z then (match nkD td d, op with
      | some b, .eql => some (.v (.bool b), [])
      | some b, .neq => some (.v (.bool !b), [])
      | _, _ => none) else none
    | none => none)
  | _, _ => none
def exLen (P : Program) (t : TypeId) (L : DL) (x : Operand) : Option (D × List Prop) := match opD L x, P.underlying t with
  | some (.ls _ _ xs), some (.slice _) => some (.v (.int .i64 xs.length), [])
  | some (.os _ o), some (.slice _) => some (.v (.int .i64 (o.getD []).length), [])
  | some (.sv _ _ n), some (.slice _) => some (.v (.int .i64 n), [])
  | some (.v (.slice none 0 0)), some (.slice _) => some (.v (.int .i64 0), [])
  | some (.v (.string s)), some .string => some (.v (.int .i64 s.size), [])
  | _, _ => none
def exConv (P : Program) (s t : TypeId) (L : DL) (x : Operand) : Option (D × List Prop) := match opD L x, P.underlying s, P.underlying t with
  | some (.v (.int _ p)), some _, some (.int k') => some (.v (.int k' (k'.wrap p)), [])
  | some (.ls _ [.int .u8] xs), some (.slice e), some .string => (match P.underlying e with
    | some (.int .u8) => some (.v (.string (mkStr xs)), [])
    | _ => none)
  | some (.v (.slice none 0 0)), some (.slice e), some .string => (match P.underlying e with
    | some (.int .u8) => some (.v (.string ByteArray.empty), [])
    | _ => none)
  | _, _, _ => none
def exMm (mx : Bool) (L : DL) : List Operand → Option (D × List Prop)
  | [x, y] => match opD L x, opD L y with
    | some (.v (.int k p)), some (.v (.int k' q)) => bif eqK k k' then some (.v (.int k (bif mx then (if q > p then q else p) else (if q < p then q else p))), []) else none
    | _, _ => none
  | _ => none
def mkIf (t : TypeId) : D → D
  | .v u => .v (.iface t u)
  | d => .ifc t d
def exP (P : Program) (L : DL) : Op → Option (D × List Prop)
  | .move x => (opD L x).map (·, [])
  | .assign x => (opD L x).map (·, [])
  | .pick c x y => (match opD L c with
    | some (.v (.bool b)) => (bif b then opD L x else opD L y).map (·, [])
    | _ => none)
  | .nilCheck x => (match opD L x with
    | some d => bif isPtr d then some (d, []) else none
    | none => none)
  | .fieldAddr t x f => (match opD L x, fOff P t f with
    | some d, some o => (addO d o).map (·, [])
    | _, _ => none)
  | .indexAddr t x y => exIx P t L x y
  | .binOp op t x y _ => exBin P op t L x y
  | .unOp .not _ x => (match opD L x with
    | some (.v (.bool b)) => some (.v (.bool !b), [])
    | _ => none)
  | .unOp .xor _ x => (match opD L x with
    | some (.v (.int k p)) => some (.v (.int k (inot k p)), [])
    | _ => none)
  | .convert s t x => exConv P s t L x
  | .makeInterface t x => (match opD L x, P.underlying t with
    | some d, some td => bif isIfc td then none else some (mkIf t d, [])
    | _, _ => none)
  | .makeFunc (.func f) a b => (match opsD L a.toList, opsD L b.toList with
    | some [], some [] => some (.v (.func (.func f) #[] #[]), [])
    | some ds, some es => some (.fn f (chain ds) (chain es), [])
    | _, _ => none)
  | .extract x i => (match opD L x with
    | some (.tu ds) => (nthT ds i).map (·, [])
    | some (.v (.tuple vs)) => (vs[i]?).map (.v ·, [])
    | _ => none)
  | .call c => (match c.callee, c.args.toList, c.argTypes.toList with
    | .builtin .len, [x], [t] => exLen P t L x
    | .builtin .min, xs, _ => exMm false L xs
    | .builtin .max, xs, _ => exMm true L xs
    | _, _, _ => none)
  | _ => none
section
variable {P : Program} {n : Nat} {L : DL} {ds : Option Nat} {ty : TypeId} {pos : String} {af : Array Edge} {gu : Option (Nat × Bool)}
theorem opsD_ev {ξ : Nat → Value} {g : G} {w : World} (hH : Hold L ξ g w) : ∀ {xs : List Operand} {es : List D}, opsD L xs = some es → ∃ vs, evs (exL L ξ) xs = some vs ∧ sem g.X g.N w (chain es) true vs ∧ vs.length = es.length
  | [], es, h => by simp only [opsD, Option.some.injEq] at h; subst h; exact ⟨[], rfl, rfl, rfl⟩
  | x :: r, es, h => by
    simp only [opsD] at h
    split at h
    · rename_i d es' h1 h2
      simp only [Option.some.injEq] at h
      subst h
      obtain ⟨v, k1, k2⟩ := opD_ev hH h1
      obtain ⟨vs, k3, k4, k5⟩ := opsD_ev hH h2
      exact ⟨v :: vs, by simp only [evs, k1, k3], ⟨[v], vs, rfl, k2, k4⟩, by simp [k5]⟩
    · cases h
theorem nthT_ok {g : G} {w : World} : ∀ {d : D} {i : Nat} {r : D} {vs : List Value}, sem g.X g.N w d true vs → nthT d i = some r → ∃ v, vs[i]? = some v ∧ Sm g w r v := by
  intro d
  induction d with
  | cons d ds _ ih =>
    rintro i r vs ⟨l1, l2, rfl, h1, h2⟩ h
    cases i with
    | zero =>
      simp only [nthT] at h
      cases ho : d.one with
      | false => rw [ho] at h; cases h
      | true =>
        rw [ho] at h
        simp only [cond_true, Option.some.injEq] at h
        subst h
        obtain ⟨v, rfl⟩ := sem_one h1 ho
        exact ⟨v, rfl, h1⟩
    | succ i =>
      simp only [nthT] at h
      cases ho : d.one with
      | false => rw [ho] at h; cases h
      | true =>
        rw [ho] at h
        obtain ⟨v, rfl⟩ := sem_one h1 ho
        simpa using ih h2 h
  | _ => intro i r vs _ h; simp [nthT] at h
theorem aInf_of {t len m : Nat} (h : aInf P t = some (len, m)) : ∃ e, P.underlying t = some (.array len e) ∧ (P.info? e).map (·.size) = some m := by
  unfold aInf at h
  split at h
  · rename_i len' e hu
    split at h
    · rename_i m' hm
      simp only [Option.some.injEq, Prod.mk.injEq] at h
      obtain ⟨rfl, rfl⟩ := h
      exact ⟨e, hu, hm⟩
    · cases h
  · cases h
theorem sInf_of {t m : Nat} (h : sInf P t = some m) : ∃ e, P.underlying t = some (.slice e) ∧ (P.info? e).map (·.size) = some m := by
  unfold sInf at h
  split at h
  · rename_i e hu
    exact ⟨e, hu, h⟩
  · cases h
theorem Fa2.row {X : Nat → Prop} {N : Nat → Option Value} {w : World} {e : List Fk} {xs : List (RT e)} {ls : List (List Value)} (h : Fa2 (rS X N w e) xs ls) : ∀ l ∈ ls, l.length = e.length := by
  intro l hl
  obtain ⟨i, hi⟩ := List.mem_iff_getElem?.1 hl
  have hlt : i < xs.length := by
    rw [h.len]
    rcases Nat.lt_or_ge i ls.length with h' | h'
    · exact h'
    · rw [List.getElem?_eq_none h'] at hi; cases hi
  obtain ⟨l', h1, h2⟩ := h.get (List.getElem?_eq_getElem hlt)
  rw [hi] at h1
  cases h1
  exact rS_len _ _ _ h2
theorem flat_at {α : Type} {m : Nat} : ∀ {ls : List (List α)} {i : Nat} {l : List α}, (∀ l ∈ ls, l.length = m) → ls[i]? = some l → ls.flatten = (ls.take i).flatten ++ l ++ (ls.drop (i + 1)).flatten ∧ (ls.take i).flatten.length = i * m
  | [], i, l, _, h => by simp at h
  | x :: ls, 0, l, hm, h => by simp at h; subst h; simp
  | x :: ls, i + 1, l, hm, h => by
    obtain ⟨h1, h2⟩ := flat_at (ls := ls) (fun l hl => hm l (List.mem_cons_of_mem _ hl)) (i := i) (l := l) (by simpa using h)
    refine ⟨by simp only [List.flatten_cons, List.take_succ_cons, List.drop_succ_cons, List.append_assoc]; rw [h1]; simp, ?_⟩
    simp only [List.take_succ_cons, List.flatten_cons, List.length_append, h2, hm x (List.mem_cons_self ..)]
    rw [Nat.add_mul, Nat.one_mul]; omega
/-- a row of cells -/
theorem At.sub {w : World} {b o : Nat} {vs a l c : List Value} (h : At w b o vs) (e : vs = a ++ l ++ c) : At w b (o + a.length) l := by
  subst e
  rw [List.append_assoc] at h
  exact (At.app.1 (At.app.1 h).2).1
theorem getD_some {α : Type} {xs : List α} {i : Nat} {z : α} (h : i < xs.length) : xs[i]? = some (xs.getD i z) := by
  rw [List.getElem?_eq_getElem h, List.getD_eq_getElem?_getD, List.getElem?_eq_getElem h]; rfl
theorem exIx_ok {t : TypeId} {x y : Operand} {d : D} {ps : List Prop} (h : exIx P t L x y = some (d, ps)) : PureOk P n ⟨ds, .indexAddr t x y, ty, pos, af, gu⟩ L d ps := by
  intro hp ξ g w hH _
  unfold exIx at h
  split at h
  · rename_i d0 k i hx hy
    have hy' := opD_v hH hy
    obtain ⟨v, hv, hs⟩ := opD_ev hH hx
    split at h
    · rename_i len m ha
      obtain ⟨e, h1, h2⟩ := aInf_of ha
      obtain ⟨d', hd, h3⟩ := Option.map_eq_some_iff.1 h
      simp only [Prod.mk.injEq] at h3
      obtain ⟨rfl, rfl⟩ := h3
      obtain ⟨b, o, rfl⟩ := addI_ptr hs hd
      have hi : i.toNat < len := by have := hp.1; omega
      exact ⟨_, addI_ok hs hi hd, d_ixA h1 h2 hv hy' hp.1.1 hp.1.2⟩
    · split at h
      · rename_i m nn e xs hsi
        obtain ⟨te, h1, h2⟩ := sInf_of hsi
        cases hm : Nat.beq e.length m with
        | false => rw [hm] at h; cases h
        | true =>
          rw [hm] at h
          have := Nat.eq_of_beq_eq_true hm
          subst this
          simp only [cond_true, Option.some.injEq, Prod.mk.injEq] at h
          obtain ⟨rfl, rfl⟩ := h
          obtain ⟨u, ls, k1, k2, k3⟩ := hs
          cases (List.cons.inj k1).1
          rcases k2.at' with ⟨_, h0, _⟩ | ⟨b, o, c, rfl, k4, k5, k6, k7, k8⟩
          · have := hp.1; omega
          · have hi : i.toNat < xs.length := by have := hp.1; omega
            obtain ⟨l, k9, k10⟩ := k3.get (getD_some (z := rz e) hi)
            obtain ⟨k11, k12⟩ := flat_at k3.row k9
            refine ⟨_, ⟨b, o + i.toNat * e.length, l, k6, k7, rfl, ?_, k10⟩, d_ixS' h1 h2 hv hy' hp.1.1 hp.1.2⟩
            rw [← k12]
            exact At.sub k8 k11
      · rename_i m k' o n' hsi
        obtain ⟨te, h1, h2⟩ := sInf_of hsi
        cases hm : Nat.beq m 1 with
        | false => rw [hm] at h; cases h
        | true =>
          rw [hm] at h
          have := Nat.eq_of_beq_eq_true hm
          subst this
          simp only [cond_true, Option.some.injEq, Prod.mk.injEq] at h
          obtain ⟨rfl, rfl⟩ := h
          obtain ⟨b, c, k1, k2, k3⟩ := hs
          cases (List.cons.inj k2).1
          have hi : i.toNat < n' := by have := hp.1; omega
          exact ⟨_, ⟨hi, b, k1, rfl⟩, d_ixS' h1 h2 hv hy' hp.1.1 hp.1.2⟩
      · cases h
  · cases h
theorem exBin_ok {op : BinOp} {t t' : TypeId} {x y : Operand} {d : D} {ps : List Prop} (h : exBin P op t L x y = some (d, ps)) : PureOk P n ⟨ds, .binOp op t x y t', ty, pos, af, gu⟩ L d ps := by
  unfold exBin at h
  split at h
  · rename_i hx hy; exact binI_ok hx hy h
  · rename_i a b hx hy
    intro hp ξ g w hH _
    split at h
    · rename_i hu; cases h; exact ⟨_, rfl, d_eqlB hu (opD_v hH hx) (opD_v hH hy)⟩
    · rename_i hu; cases h; exact ⟨_, rfl, d_neqB hu (opD_v hH hx) (opD_v hH hy)⟩
    · cases h
  · rename_i a b hx hy
    intro hp ξ g w hH _
    split at h
    · cases h; exact ⟨_, rfl, d_eqlS (opD_v hH hx) (opD_v hH hy)⟩
    · cases h; exact ⟨_, rfl, d_neqS (opD_v hH hx) (opD_v hH hy)⟩
    · cases h
  · rename_i d0 z _ _ _ hx hy
    intro hp ξ g w hH _
    obtain ⟨v, hv, hs⟩ := opD_ev hH hx
    split at h
    · rename_i td hu
      cases hz : isNil td z with
      | false => rw [hz] at h; cases h
      | true =>
        rw [hz] at h
        simp only [cond_true] at h
        split at h
        · rename_i b hn
          cases h
          exact ⟨_, rfl, d_nkE hu (nkD_ok hs hz hn) hv (opD_v hH hy)⟩
        · rename_i b hn
          cases h
          exact ⟨_, rfl, d_nkN hu (nkD_ok hs hz hn) hv (opD_v hH hy)⟩
        · cases h
    · cases h
  · cases h
end
end Go.Sx
namespace Go.Sx
open Go.Mi Go.RowKit
section
variable {P : Program} {n : Nat} {L : DL} {ds : Option Nat} {ty : TypeId} {pos : String} {af : Array Edge} {gu : Option (Nat × Bool)}
theorem Lsl.shape {X : Nat → Prop} {w : World} {nn : Bool} {k m : Nat} {v : Value} {cs : List Value} (h : Lsl X w nn k v m cs) : (v = vN ∧ k = 0 ∧ nn = false) ∨ ∃ b o c, v = vS b o k c ∧ k ≤ c ∧ At w b o cs := by
  rcases h.at' with ⟨h1, h2, h3⟩ | ⟨b, o, c, h1, h2, _, _, _, h3⟩
  · exact .inl ⟨h3, h2, h1⟩
  · exact .inr ⟨b, o, c, h1, h2, h3⟩
theorem exLen_ok {t : TypeId} {x : Operand} {d : D} {ps : List Prop} (h : exLen P t L x = some (d, ps)) : PureOk P n ⟨ds, .call ⟨.builtin .len, #[x], #[t]⟩, ty, pos, af, gu⟩ L d ps := by
  intro hp ξ g w hH _
  unfold exLen at h
  split at h <;> simp only [Option.some.injEq, Prod.mk.injEq, reduceCtorEq] at h
  · rename_i nn e xs _ hx hu
    obtain ⟨rfl, rfl⟩ := h
    obtain ⟨v, hv, u, ls, h1, h2, h3⟩ := opD_ev hH hx
    cases (List.cons.inj h1).1
    refine ⟨_, rfl, ?_⟩
    rcases h2.shape with ⟨rfl, h4, _⟩ | ⟨b, o, c, rfl, _, _⟩
    · have := d_len_slice (P := P) (n := n) (w := w) (ds := ds) (ty := ty) (pos := pos) (af := af) (gu := gu) hu hv
      rwa [← h4] at this
    · exact d_len_slice hu hv
  · rename_i e o _ hx hu
    obtain ⟨rfl, rfl⟩ := h
    obtain ⟨v, hv, u, h1, h2⟩ := opD_ev hH hx
    cases (List.cons.inj h1).1
    refine ⟨_, rfl, ?_⟩
    cases o with
    | none => have : v = vN := h2; subst this; exact d_len_slice hu hv
    | some xs =>
      obtain ⟨vs, h3, _⟩ := h2
      rcases h3.shape with ⟨_, _, h4⟩ | ⟨b, o, c, rfl, _, _⟩
      · cases h4
      · exact d_len_slice hu hv
  · rename_i k o m _ hx hu
    obtain ⟨rfl, rfl⟩ := h
    obtain ⟨v, hv, b, c, h1, h2, _⟩ := opD_ev hH hx
    cases (List.cons.inj h2).1
    exact ⟨_, rfl, d_len_slice hu hv⟩
  · rename_i _ hx hu
    obtain ⟨rfl, rfl⟩ := h
    exact ⟨_, rfl, d_len_slice hu (opD_v hH hx)⟩
  · rename_i s hx hu
    obtain ⟨rfl, rfl⟩ := h
    exact ⟨_, rfl, d_len_string hu (opD_v hH hx)⟩
theorem ints_of {xs : List Int} {vs : List Value} {X : Nat → Prop} {N : Nat → Option Value} {w : World} {k : IntKind} (h : Fa2 (fS X N w (.int k)) xs vs) : vs = xs.map (Value.int k) := by
  induction xs generalizing vs with
  | nil =>
    cases vs with
    | nil => rfl
    | cons v vs => exact h.elim
  | cons x xs ih =>
    cases vs with
    | nil => exact h.elim
    | cons v vs => rw [List.map_cons, ← ih h.2, show v = .int k x from h.1]
theorem d_bytesStr {x : Operand} {s t e : TypeId} {xs : List Int} {v : Value} {cs : List Value} {X : Nat → Prop} {w : World} {nn : Bool} {Lv : List (Nat × Value)} (hs : P.underlying s = some (.slice e)) (he : P.underlying e = some (.int .u8)) (ht : P.underlying t = some .string)
    (hx : ev Lv x = some v) (hl : Lsl X w nn xs.length v 1 cs) (hc : cs = xs.map (Value.int .u8)) : Det P ⟨ds, .convert s t x, ty, pos, af, gu⟩ n Lv w (.string (mkStr xs)) w := by
  subst hc
  rcases hl.shape with ⟨rfl, h0, _⟩ | ⟨b, o, c, rfl, _, ha⟩
  · obtain rfl := List.eq_nil_of_length_eq_zero h0
    exact Det.of_run fun a' hF => by
      have h1 : (Conv.bytesToString vN).run P w = .ok (.string ByteArray.empty) w := rfl
      simp [execOp, hF.eval hx, run_convert_bytes_string w s t e none 0 0 hs he ht, h1, mkStr]
  · have hX : ∀ j, j < xs.length → w.cell? ⟨b, o + j, none⟩ = some (.int .u8 (xs.getD j 0)) := fun j hj => ha j _ (by simp [List.getElem?_eq_getElem hj, List.getD])
    have := d_bytes_string (P := P) (n := n) (L := Lv) (w := w) (ds := ds) (ty := ty) (pos := pos) (af := af) (gu := gu) (X := fun j => xs.getD j 0) hs he ht hx ⟨.inr ⟨b, o, rfl, hX⟩⟩ (fun h => by cases h)
    have e1 : bytesOf xs.length (fun j => xs.getD j 0) = mkStr xs := by
      unfold bytesOf mkStr
      congr 1
      apply List.ext_getElem
      · simp
      · intro i h1 h2
        simp at h1
        simp [List.getD, h1]
    rwa [e1] at this
theorem exConv_ok {s t : TypeId} {x : Operand} {d : D} {ps : List Prop} (h : exConv P s t L x = some (d, ps)) : PureOk P n ⟨ds, .convert s t x, ty, pos, af, gu⟩ L d ps := by
  intro hp ξ g w hH _
  unfold exConv at h
  split at h
  · rename_i k p _ k' hx hs ht
    simp only [Option.some.injEq, Prod.mk.injEq] at h
    obtain ⟨rfl, rfl⟩ := h
    exact ⟨_, rfl, d_conv hs ht (opD_v hH hx) rfl⟩
  · rename_i nn xs e hx hs ht
    split at h
    · rename_i he
      simp only [Option.some.injEq, Prod.mk.injEq] at h
      obtain ⟨rfl, rfl⟩ := h
      obtain ⟨v, hv, u, ls, h1, h2, h3⟩ := opD_ev hH hx
      cases (List.cons.inj h1).1
      obtain ⟨vs, rfl, h4⟩ := rows1' h3
      rw [flat1 rfl] at h2
      exact ⟨_, rfl, d_bytesStr hs he ht hv h2 (ints_of h4)⟩
    · cases h
  · rename_i e hx hs ht
    split at h
    · rename_i he
      simp only [Option.some.injEq, Prod.mk.injEq] at h
      obtain ⟨rfl, rfl⟩ := h
      have hv := opD_v hH hx
      exact ⟨_, rfl, d_bytesStr (xs := []) (cs := []) (nn := false) (X := g.X) hs he ht hv ⟨Nat.zero_le _, by simp, .inl ⟨rfl, rfl, rfl⟩⟩ rfl⟩
    · cases h
  · cases h
theorem d_max {x y : Operand} {T : Array TypeId} {k : IntKind} {p q r : Int} {Lv : List (Nat × Value)} {w : World} (hx : ev Lv x = some (.int k p)) (hy : ev Lv y = some (.int k q)) (hr : (if q > p then q else p) = r) :
    Det P ⟨ds, .call ⟨.builtin .max, #[x, y], T⟩, ty, pos, af, gu⟩ n Lv w (.int k r) w :=
  Det.of_run fun a hF => by subst hr; simp [execOp, hF.eval hx, hF.eval hy, resolve, invoke, builtin, Builtin.max_, Builtin.max2]
theorem exMm_ok {mx : Bool} {xs : Array Operand} {T : Array TypeId} {d : D} {ps : List Prop} (h : exMm mx L xs.toList = some (d, ps)) : PureOk P n ⟨ds, .call ⟨.builtin (bif mx then .max else .min), xs, T⟩, ty, pos, af, gu⟩ L d ps := by
  intro hp ξ g w hH _
  obtain ⟨l⟩ := xs
  simp only at h
  unfold exMm at h
  split at h
  · rename_i x y
    split at h
    · rename_i k p k' q hx hy
      cases hk : eqK k k' with
      | false => rw [hk] at h; cases h
      | true =>
        rw [hk] at h
        obtain rfl := of_decide_eq_true hk
        simp only [cond_true, Option.some.injEq, Prod.mk.injEq] at h
        obtain ⟨rfl, rfl⟩ := h
        cases mx with
        | true => exact ⟨_, rfl, d_max (opD_v hH hx) (opD_v hH hy) rfl⟩
        | false => exact ⟨_, rfl, d_min (opD_v hH hx) (opD_v hH hy) rfl⟩
    · cases h
  · cases h
theorem exP_ok {op : Op} {d : D} {ps : List Prop} (h : exP P L op = some (d, ps)) : PureOk P n ⟨ds, op, ty, pos, af, gu⟩ L d ps := by
  unfold exP at h
  split at h
  · rename_i x
    obtain ⟨d', h1, h2⟩ := Option.map_eq_some_iff.1 h
    cases h2
    intro hp ξ g w hH _
    obtain ⟨v, hv, hs⟩ := opD_ev hH h1
    exact ⟨v, hs, d_move hv⟩
  · rename_i x
    obtain ⟨d', h1, h2⟩ := Option.map_eq_some_iff.1 h
    cases h2
    intro hp ξ g w hH _
    obtain ⟨v, hv, hs⟩ := opD_ev hH h1
    exact ⟨v, hs, d_assign hv⟩
  · rename_i c x y
    split at h
    · rename_i b hc
      obtain ⟨d', h1, h2⟩ := Option.map_eq_some_iff.1 h
      cases h2
      intro hp ξ g w hH _
      have hc' := opD_v hH hc
      cases b with
      | true => obtain ⟨v, hv, hs⟩ := opD_ev hH h1; exact ⟨v, hs, d_pick hc' hv⟩
      | false => obtain ⟨v, hv, hs⟩ := opD_ev hH h1; exact ⟨v, hs, d_pick hc' hv⟩
    · cases h
  · rename_i x
    split at h
    · rename_i d0 hx
      cases hp : isPtr d0 with
      | false => rw [hp] at h; cases h
      | true =>
        rw [hp] at h
        cases h
        intro _ ξ g w hH _
        obtain ⟨v, hv, hs⟩ := opD_ev hH hx
        obtain ⟨ad, rfl⟩ := isPtr_ok hs hp
        exact ⟨_, hs, d_nilP hv⟩
    · cases h
  · rename_i t x f
    split at h
    · rename_i d0 o hx hf
      obtain ⟨d', h1, h2⟩ := Option.map_eq_some_iff.1 h
      cases h2
      intro _ ξ g w hH _
      obtain ⟨v, hv, hs⟩ := opD_ev hH hx
      obtain ⟨b, o', rfl⟩ := addO_ptr hs h1
      unfold fOff at hf
      split at hf
      · rename_i fs hu
        split at hf
        · rename_i fd hfd
          split at hf
          · rename_i m hm
            cases hf
            exact ⟨_, addO_ok hs h1, d_fieldAddr hu hfd hm hv⟩
          · cases hf
        · cases hf
      · cases hf
    · cases h
  · exact exIx_ok h
  · exact exBin_ok h
  · split at h
    · rename_i b hx
      cases h
      intro _ ξ g w hH _
      exact ⟨_, rfl, d_not (opD_v hH hx)⟩
    · cases h
  · split at h
    · rename_i k p hx
      cases h
      intro _ ξ g w hH _
      exact ⟨_, rfl, d_com (opD_v hH hx)⟩
    · cases h
  · exact exConv_ok h
  · rename_i t x
    split at h
    · rename_i d0 td hx hu
      cases hd : isIfc td with
      | true => rw [hd] at h; cases h
      | false =>
        rw [hd] at h
        simp only [cond_false, Option.some.injEq, Prod.mk.injEq] at h
        obtain ⟨rfl, rfl⟩ := h
        intro _ ξ g w hH _
        obtain ⟨v, hv, hs⟩ := opD_ev hH hx
        refine ⟨.iface t v, ?_, d_mkI hu hd hv⟩
        cases d0 with
        | v u => have := hs.eq; subst this; rfl
        | _ => exact ⟨v, hs, rfl⟩
    · cases h
  · rename_i f a b
    intro _ ξ g w hH _
    split at h
    · rename_i h1 h2
      cases h
      obtain ⟨us, k1, _, k3⟩ := opsD_ev hH h1
      obtain ⟨vs, k4, _, k6⟩ := opsD_ev hH h2
      obtain rfl := List.eq_nil_of_length_eq_zero k3
      obtain rfl := List.eq_nil_of_length_eq_zero k6
      exact ⟨_, rfl, d_mkF k1 k4⟩
    · rename_i es fs _ h1 h2
      cases h
      obtain ⟨us, k1, k2, _⟩ := opsD_ev hH h1
      obtain ⟨vs, k4, k5, _⟩ := opsD_ev hH h2
      exact ⟨_, ⟨us, vs, k2, k5, rfl⟩, d_mkF k1 k4⟩
    · cases h
  · rename_i x i
    intro _ ξ g w hH _
    split at h
    · rename_i es hx
      obtain ⟨d', h1, h2⟩ := Option.map_eq_some_iff.1 h
      cases h2
      obtain ⟨v, hv, l', k1, k2⟩ := opD_ev hH hx
      cases (List.cons.inj k2).1
      obtain ⟨u, k3, k4⟩ := nthT_ok k1 h1
      exact ⟨u, k4, d_extract hv (by simpa using k3)⟩
    · rename_i vs hx
      obtain ⟨d', h1, h2⟩ := Option.map_eq_some_iff.1 h
      cases h2
      exact ⟨_, rfl, d_extract (opD_v hH hx) h1⟩
    · cases h
  · rename_i c
    obtain ⟨cl, ⟨xs⟩, ⟨ts⟩⟩ := c
    simp only at h
    split at h
    · exact exLen_ok h
    · exact exMm_ok (mx := false) (xs := ⟨_⟩) h
    · exact exMm_ok (mx := true) (xs := ⟨_⟩) h
    · cases h
  · cases h
end
end Go.Sx
namespace Go.Sx
open Go.Mi Go.RowKit
def ixp (o i m : Nat) : Nat := bif Nat.beq m 1 then (bif Nat.beq o 0 then i else o + i) else (bif Nat.beq o 0 then i * m else o + i * m)
theorem ixp_eq (o i m : Nat) : ixp o i m = o + i * m := by
  unfold ixp
  cases hm : Nat.beq m 1 with
  | true =>
    have := Nat.eq_of_beq_eq_true hm
    subst this
    cases ho : Nat.beq o 0 with
    | true => have := Nat.eq_of_beq_eq_true ho; subst this; simp
    | false => simp
  | false =>
    cases ho : Nat.beq o 0 with
    | true => have := Nat.eq_of_beq_eq_true ho; subst this; simp
    | false => simp
def one1 : D → Option D
  | .ar k n f => bif Nat.beq n 1 then some (.v (.int k (f 0))) else none
  | d => bif d.isOne then some d else none
def fin1 (flat : Bool) (r : List D) : Option D := bif flat then (match r with
  | [d] => one1 d
  | _ => none) else some (mk1 r)
/-- flat?, and of how many cells -/
def tInf (P : Program) (t : TypeId) : Option (Bool × Nat) := match P.underlying t, P.info? t with
  | some d, some i => some (TypeDesc.flat d, i.size)
  | _, _ => none
def exLd (P : Program) (L : DL) (H : Hp) (t : TypeId) (x : Operand) : Option (List Nat × D) := match opD L x, tInf P t with
  | some (.cp k o), some (fl, m) => (match lkH H k with
    | some (.ob _ d) => ((getS (segs d) o m).bind (fin1 fl)).map ([k], ·)
    | _ => none)
  | some (.ep k o mm n i), some (fl, m) => (match lkH H k with
    | some (.ob _ d) => (match getS (segs d) o (n * mm) with
      | some [.ar kk _ f] => bif fl then (bif Nat.beq m 1 && Nat.ble 1 mm then some ([k], .v (.int kk (f (ixp 0 i mm)))) else none)
        else (bif Nat.ble m mm then some ([k], .ar kk m fun j => f (ixp 0 i mm + j)) else none)
      | _ => ((getS (segs d) (o + i * mm) m).bind (fin1 fl)).map ([k], ·))
    | _ => none)
  | some (.xp k mm _ i o), some (fl, m) => (match lkH H k with
    | some (.sl _ e xs) => bif Nat.beq mm e.length then ((getS (rowS e (xs.getD i (rz e))) o m).bind (fin1 fl)).map ([k], ·) else none
    | _ => none)
  | some (.im d o), some (fl, m) => ((getS (segs d) o m).bind (fin1 fl)).map ([], ·)
  | some (.ip e x o), some (fl, m) => ((getS (rowS e x) o m).bind (fin1 fl)).map ([], ·)
  | _, _ => none
section
variable {P : Program} {n : Nat} {L : DL} {ds : Option Nat} {ty : TypeId} {pos : String} {af : Array Edge} {gu : Option (Nat × Bool)} {g : G} {w : World}
theorem EOk.rd {o : Oper} {H : Nat → Option O} {rd : List Nat} {d : D} (h : ∀ ξ g w, HS (resH rd H) g w → Hold L ξ g w → ∃ v, Sm g w d v ∧ Det P o n (exL L ξ) w v w) : EOk P n o L H ⟨rd, [], [], d⟩ := by
  intro ξ g w hS hH _
  have hS' : HS (resH rd H) g w := by simpa [keys] using hS
  obtain ⟨v, h1, h2⟩ := h ξ g w hS' hH
  exact h2.mono fun v' w' ⟨e1, e2⟩ => by subst e1; subst e2; exact ⟨g, Post.pure hS.wf h1⟩
theorem tInf_of {t : TypeId} {fl : Bool} {m : Nat} (h : tInf P t = some (fl, m)) : ∃ d, P.underlying t = some d ∧ TypeDesc.flat d = fl ∧ (P.info? t).map (·.size) = some m := by
  unfold tInf at h
  split at h
  · rename_i d i hu hi
    simp only [Option.some.injEq, Prod.mk.injEq] at h
    exact ⟨d, hu, h.1, by rw [hi]; exact congrArg some h.2⟩
  · cases h
theorem mk1_ok {r : List D} {l : List Value} (h : semS g.X g.N w r l) (ho : ∀ u ∈ l, u.oneCell' = true) : Sm g w (mk1 r) (.agg l.toArray) := by
  have gen : ∀ {r : List D}, semS g.X g.N w r l → Sm g w (.ag (chain r)) (.agg l.toArray) := fun h => ⟨l, sem_chain.2 h, ho, rfl⟩
  unfold mk1
  split
  · rename_i d
    split
    · rename_i k n f
      have : l = cells k n f := semS_one.1 h
      subst this
      exact rfl
    · exact gen h
  · exact gen h
theorem one1_ok {d d' : D} {l : List Value} (h : sem g.X g.N w d false l) (ho : one1 d = some d') : ∃ v, l = [v] ∧ Sm g w d' v := by
  unfold one1 at ho
  split at ho
  · rename_i k m f
    cases hm : Nat.beq m 1 with
    | false => rw [hm] at ho; cases ho
    | true =>
      rw [hm] at ho
      have := Nat.eq_of_beq_eq_true hm
      subst this
      cases ho
      have h1 : l = cells k 1 f := h
      subst h1
      exact ⟨_, rfl, rfl⟩
  · cases hi : D.isOne _ with
    | false => rw [hi] at ho; cases ho
    | true =>
      rw [hi] at ho
      cases ho
      obtain ⟨v, h1, _, h2⟩ := sem_isOne h hi
      exact ⟨v, h1, h2⟩
/-- a load of cells that are known -/
theorem ld_at {t : TypeId} {x : Operand} {fl : Bool} {m b o : Nat} {r : List D} {d : D} {l : List Value} {Lv : List (Nat × Value)} (ht : tInf P t = some (fl, m)) (hx : ev Lv x = some (vP b o)) (ha : At w b o l) (hl : l.length = m) (hs : semS g.X g.N w r l) (ho : ∀ u ∈ l, u.oneCell' = true) (hf : fin1 fl r = some d) :
    ∃ v, Sm g w d v ∧ Det P ⟨ds, .load t x, ty, pos, af, gu⟩ n Lv w v w := by
  obtain ⟨td, h1, h2, h3⟩ := tInf_of ht
  unfold fin1 at hf
  cases fl with
  | true =>
    simp only [cond_true] at hf
    split at hf
    · rename_i d0
      obtain ⟨v, rfl, h4⟩ := one1_ok (semS_one.1 hs) hf
      exact ⟨v, h4, d_load1 h1 h2 hx (by simpa using ha 0 v rfl)⟩
    · cases hf
  | false =>
    simp only [cond_false, Option.some.injEq] at hf
    subst hf
    exact ⟨_, mk1_ok hs ho, d_loadC h1 h2 h3 hx ha hl⟩
/-- .. within cells -/
theorem ld_in {t : TypeId} {x : Operand} {fl : Bool} {m b o0 o : Nat} {ss r : List D} {d : D} {l : List Value} {Lv : List (Nat × Value)} (ht : tInf P t = some (fl, m)) (hx : ev Lv x = some (vP b (o0 + o))) (ha : At w b o0 l) (hs : semS g.X g.N w ss l) (ho : ∀ u ∈ l, u.oneCell' = true) (hg : getS ss o m = some r) (hf : fin1 fl r = some d) :
    ∃ v, Sm g w d v ∧ Det P ⟨ds, .load t x, ty, pos, af, gu⟩ n Lv w v w := by
  obtain ⟨k1, k2⟩ := getS_ok hs hg
  cases hm : m with
  | zero =>
    subst hm
    refine ld_at ht hx (l := []) (fun i u hu => by simp at hu) rfl (by simpa using k1) (by simp) hf
  | succ m' =>
    have k2' : o + m ≤ l.length := by rw [if_neg (by omega)] at k2; simpa using k2
    refine ld_at ht hx (l := (l.drop o).take m) ?_ (by simp; omega) k1 (fun u hu => ho u (List.mem_of_mem_drop (List.mem_of_mem_take hu))) hf
    have h3 : l = l.take o ++ (l.drop o).take m ++ (l.drop o).drop m := by rw [List.append_assoc, List.take_append_drop, List.take_append_drop]
    have := At.sub ha h3
    rw [List.length_take, Nat.min_eq_left (by omega)] at this
    exact this
theorem exLd_ok {H : Hp} {t : TypeId} {x : Operand} {rd : List Nat} {d : D} (h : exLd P L H t x = some (rd, d)) : EOk P n ⟨ds, .load t x, ty, pos, af, gu⟩ L (lkH H) ⟨rd, [], [], d⟩ := by
  refine EOk.rd fun ξ g w hS hH => ?_
  have obj : ∀ {k : Nat} {o : O}, k ∈ rd → lkH H k = some o → OS g w k o := fun {k o} hk ho => hS.os k o (by unfold resH; rw [memN_iff.2 hk]; exact ho)
  unfold exLd at h
  split at h
  · rename_i k o fl m hx ht
    split at h
    · rename_i ty' d0 hk
      obtain ⟨d', h1, h2⟩ := Option.map_eq_some_iff.1 h
      cases h2
      obtain ⟨r, h3, h4⟩ := Option.bind_eq_some_iff.1 h1
      obtain ⟨v, hv, b', e1, e2⟩ := opD_ev hH hx
      cases (List.cons.inj e2).1
      obtain ⟨b, c, k1, k2, k3, k4, k5⟩ := obj (by simp) hk
      rw [k1] at e1
      cases e1
      exact ld_in ht (o0 := 0) (by simpa using hv) (At.of_blk k3) (sem_segs k4) k5 h3 h4
    · cases h
  · rename_i k o mm nn i fl m hx ht
    split at h
    · rename_i ty' d0 hk
      obtain ⟨v, hv, hi, b', e1, e2⟩ := opD_ev hH hx
      cases (List.cons.inj e2).1
      split at h
      · rename_i kk q f hg
        have hkr : k ∈ rd := by
          cases fl with
          | true =>
            cases hc : Nat.beq m 1 && Nat.ble 1 mm with
            | false => rw [hc] at h; cases h
            | true => rw [hc] at h; cases h; simp
          | false =>
            cases hc : Nat.ble m mm with
            | false => rw [hc] at h; cases h
            | true => rw [hc] at h; cases h; simp
        obtain ⟨b, c, k1, k2, k3, k4, k5⟩ := obj hkr hk
        rw [k1] at e1
        cases e1
        obtain ⟨k6, k7⟩ := getS_ok (sem_segs k4) hg
        have k6 := semS_one.1 k6
        have hq : q = nn * mm := by
          have h5 := sem_len k6
          rw [List.length_take, List.length_drop] at h5
          have : szD (.ar kk q f) = q := rfl
          rw [this] at h5
          have h6 : 0 < nn := by omega
          by_cases hz : nn * mm = 0
          · rw [hz] at h5; simp at h5; omega
          · rw [if_neg hz] at k7
            omega
        have k8 : (c.toList.drop o).take (nn * mm) = cells kk q f := k6
        have atc : ∀ j, j < mm → w.cell? ⟨b', o + i * mm + j, none⟩ = some (.int kk (f (i * mm + j))) := by
          intro j hj
          have h6 : i * mm + j < nn * mm := by
            have : (i + 1) * mm ≤ nn * mm := Nat.mul_le_mul_right _ hi
            rw [Nat.add_mul, Nat.one_mul] at this
            omega
          have h7 : (cells kk q f)[i * mm + j]? = some (.int kk (f (i * mm + j))) := cells_get (by rw [hq]; exact h6)
          rw [← k8, List.getElem?_take, if_pos h6, List.getElem?_drop] at h7
          rw [cell_blk k3, ← Array.getElem?_toList, Nat.add_assoc]
          exact h7
        obtain ⟨td, t1, t2, t3⟩ := tInf_of ht
        cases fl with
        | true =>
          cases hc : Nat.beq m 1 && Nat.ble 1 mm with
          | false => rw [hc] at h; cases h
          | true =>
            rw [hc] at h
            rw [Bool.and_eq_true] at hc
            cases h
            have hm := Nat.le_of_ble_eq_true hc.2
            refine ⟨_, rfl, d_load1 t1 t2 hv ?_⟩
            have := atc 0 (by omega)
            rw [ixp_eq, Nat.zero_add]
            simpa using this
        | false =>
          cases hc : Nat.ble m mm with
          | false => rw [hc] at h; cases h
          | true =>
            rw [hc] at h
            cases h
            have hm := Nat.le_of_ble_eq_true hc
            refine ⟨_, rfl, d_loadC t1 t2 t3 hv (vs := cells kk m fun j => f (ixp 0 i mm + j)) (fun j u hu => ?_) cells_len⟩
            have hj : j < m := by
              rcases Nat.lt_or_ge j m with h' | h'
              · exact h'
              · rw [List.getElem?_eq_none (by rw [cells_len]; exact h')] at hu; cases hu
            rw [cells_get hj] at hu
            cases hu
            rw [ixp_eq, Nat.zero_add]
            exact atc j (by omega)
      · obtain ⟨d', h1, h2⟩ := Option.map_eq_some_iff.1 h
        cases h2
        obtain ⟨r, h3, h4⟩ := Option.bind_eq_some_iff.1 h1
        obtain ⟨b, c, k1, k2, k3, k4, k5⟩ := obj (by simp) hk
        rw [k1] at e1
        cases e1
        exact ld_in ht (o0 := 0) (by simpa using hv) (At.of_blk k3) (sem_segs k4) k5 h3 h4
    · cases h
  · rename_i k mm nn i o fl m hx ht
    split at h
    · rename_i ty' e xs hk
      cases hm : Nat.beq mm e.length with
      | false => rw [hm] at h; cases h
      | true =>
        rw [hm] at h
        have := Nat.eq_of_beq_eq_true hm
        subst this
        obtain ⟨d', h1, h2⟩ := Option.map_eq_some_iff.1 h
        cases h2
        obtain ⟨r, h3, h4⟩ := Option.bind_eq_some_iff.1 h1
        obtain ⟨v, hv, hi, b', cc, e1, e2⟩ := opD_ev hH hx
        cases (List.cons.inj e2).1
        obtain ⟨v, ls, k1, k2, k3, k4, k5, k6⟩ := obj (by simp) hk
        rw [k1] at e1
        cases e1
        rcases k3.at with ⟨h5, _⟩ | ⟨b, cap, h5, h6, h7⟩
        · cases h5
        · cases h5
          obtain ⟨l, h8, h9⟩ := k5.get (getD_some (z := rz e) hi)
          obtain ⟨h10, h11⟩ := flat_at k5.row h8
          have ha := At.sub h7 h10
          rw [h11, Nat.zero_add] at ha
          exact ld_in ht hv ha (sem_rowS h9) (rS_one h9) h3 h4
    · cases h
  · rename_i d0 o fl m hx ht
    obtain ⟨d', h1, h2⟩ := Option.map_eq_some_iff.1 h
    cases h2
    obtain ⟨r, h3, h4⟩ := Option.bind_eq_some_iff.1 h1
    obtain ⟨v, hv, b, l', _, _, e2, e3, e4, e5⟩ := opD_ev hH hx
    cases (List.cons.inj e2).1
    exact ld_in ht (o0 := 0) (by simpa using hv) e3 (sem_segs e5) e4 h3 h4
  · rename_i e x0 o fl m hx ht
    obtain ⟨d', h1, h2⟩ := Option.map_eq_some_iff.1 h
    cases h2
    obtain ⟨r, h3, h4⟩ := Option.bind_eq_some_iff.1 h1
    obtain ⟨v, hv, b, o0, l', _, _, e2, e3, e4⟩ := opD_ev hH hx
    cases (List.cons.inj e2).1
    exact ld_in ht hv e3 (sem_rowS e4) (rS_one e4) h3 h4
  · cases h
end
end Go.Sx
namespace Go.Sx
open Go.Mi Go.RowKit
/-- an element of an array of integers is written -/
def updA (cs : List D) (mm n i : Nat) : List D → Nat → Option (List D)
  | [], _ => none
  | d :: ds, o => bif Nat.ble (szD d) o then (updA cs mm n i ds (o - szD d)).map (d :: ·) else match d with
    | .ar k N f => bif Nat.ble (o + n * mm) N then (match cs with
      | [.v (.int k' x)] => bif eqK k k' && Nat.ble 1 mm then some (.ar k N (upd f (ixp o i mm) x) :: ds) else none
      | [.ar k' m h] => bif eqK k k' && Nat.ble m mm then some (.ar k N (updW f (ixp o i mm) m h) :: ds) else none
      | _ => none) else none
    | _ => none
def szS (cs : List D) : Nat := cs.foldr (fun d a => szD d + a) 0
def exSt (P : Program) (L : DL) (H : Hp) (t : TypeId) (x y : Operand) : Option (Nat × O) := match opD L x, (opD L y).bind toC, tInf P t with
  | some (.cp k o), some cs, some (_, m) => bif Nat.beq (szS cs) m then (match lkH H k with
    | some (.ob ty d) => (putS cs m (segs d) o).map fun r => (k, .ob ty (chain r))
    | _ => none) else none
  | some (.ep k o mm n i), some cs, some (_, m) => bif Nat.beq (szS cs) m then (match lkH H k with
    | some (.ob ty d) => (match updA cs mm n i (segs d) o with
      | some r => some (k, .ob ty (chain r))
      | none => (putS cs m (segs d) (o + i * mm)).map fun r => (k, .ob ty (chain r)))
    | _ => none) else none
  | some (.xp k mm _ i o), some cs, some (_, m) => bif Nat.beq (szS cs) m then (match lkH H k with
    | some (.sl ty e xs) => bif Nat.beq mm e.length then ((putS cs m (rowS e (xs.getD i (rz e))) o).bind (toR e)).map fun r => (k, .sl ty e (xs.set i r)) else none
    | _ => none) else none
  | _, _, _ => none
section
variable {P : Program} {n : Nat} {L : DL} {ds : Option Nat} {ty : TypeId} {pos : String} {af : Array Edge} {gu : Option (Nat × Bool)} {g : G} {w : World}
theorem szS_len {X : Nat → Prop} {N : Nat → Option Value} : ∀ {cs : List D} {l : List Value}, semS X N w cs l → l.length = szS cs
  | [], l, h => by rw [show l = [] from h]; rfl
  | d :: cs, l, ⟨l1, l2, e, h1, h2⟩ => by subst e; rw [List.length_append, sem_len h1, szS_len h2]; rfl
theorem updA_ok {X : Nat → Prop} {N : Nat → Option Value} {cs : List D} {le : List Value} {mm nn i : Nat} (he : semS X N w cs le) (hi : i < nn) : ∀ {ss : List D} {o : Nat} {r : List D} {l : List Value}, semS X N w ss l → updA cs mm nn i ss o = some r → semS X N w r (l.take (o + i * mm) ++ le ++ l.drop (o + i * mm + le.length)) ∧ o + i * mm + le.length ≤ l.length
  | [], o, r, l, _, hp => by simp [updA] at hp
  | d :: ss, o, r, l, ⟨l1, l2, e', h1, h2⟩, hp => by
    subst e'
    have hl := sem_len h1
    simp only [updA] at hp
    cases hb : Nat.ble (szD d) o with
    | true =>
      rw [hb] at hp
      have hle := Nat.le_of_ble_eq_true hb
      obtain ⟨r', hr, rfl⟩ := Option.map_eq_some_iff.1 hp
      obtain ⟨k1, k2⟩ := updA_ok he hi h2 hr
      refine ⟨⟨l1, _, ?_, h1, k1⟩, by simp; omega⟩
      rw [List.take_append, List.take_of_length_le (by omega), List.drop_append, List.drop_eq_nil_of_le (by omega), hl]
      simp only [List.nil_append, List.append_assoc]
      rw [show o + i * mm + le.length - szD d = o - szD d + i * mm + le.length by omega, show o + i * mm - szD d = o - szD d + i * mm by omega]
    | false =>
      rw [hb] at hp
      simp only [cond_false] at hp
      cases d with
      | ar k N' f =>
        simp only at hp
        have h1' : l1 = cells k N' f := h1
        have hn : l1.length = N' := by rw [h1', cells_len]
        cases hc : Nat.ble (o + nn * mm) N' with
        | false => rw [hc] at hp; cases hp
        | true =>
          rw [hc] at hp
          have hle := Nat.le_of_ble_eq_true hc
          simp only [cond_true] at hp
          have him : (i + 1) * mm ≤ nn * mm := Nat.mul_le_mul_right _ hi
          rw [Nat.add_mul, Nat.one_mul] at him
          have fin : ∀ {d' : D}, inAr k N' f (o + i * mm) cs = some d' → semS X N w (d' :: ss) ((l1 ++ l2).take (o + i * mm) ++ le ++ (l1 ++ l2).drop (o + i * mm + le.length)) ∧ o + i * mm + le.length ≤ (l1 ++ l2).length := fun {d'} h => by
            obtain ⟨k1, k2⟩ := inAr_ok he h
            refine ⟨⟨_, l2, ?_, k1, h2⟩, by simp; omega⟩
            rw [← h1', List.take_append_of_le_length (by omega), List.drop_append_of_le_length (by omega)]
            simp
          split at hp
          · rename_i k' x
            cases hk : eqK k k' && Nat.ble 1 mm with
            | false => rw [hk] at hp; cases hp
            | true =>
              rw [hk] at hp
              rw [Bool.and_eq_true] at hk
              have hm1 := Nat.le_of_ble_eq_true hk.2
              simp only [cond_true, Option.some.injEq] at hp
              subst hp
              refine fin ?_
              have hlt : Nat.blt (o + i * mm) N' = true := by rw [Nat.blt_eq]; omega
              simp only [inAr, hk.1, hlt, ixp_eq, Bool.and_self, cond_true]
          · rename_i k' m h
            cases hk : eqK k k' && Nat.ble m mm with
            | false => rw [hk] at hp; cases hp
            | true =>
              rw [hk] at hp
              rw [Bool.and_eq_true] at hk
              have hm1 := Nat.le_of_ble_eq_true hk.2
              simp only [cond_true, Option.some.injEq] at hp
              subst hp
              refine fin ?_
              have hlt : Nat.ble (o + i * mm + m) N' = true := Nat.ble_eq_true_of_le (by omega)
              simp only [inAr, hk.1, hlt, ixp_eq, Bool.and_self, cond_true]
          · cases hp
      | _ => simp at hp
/-- a block that is owned is written -/
theorem Post.upd {H : Nat → Option O} {k ty b : Nat} {o o' : O} {c' : Array Value} {v : Value} {w' : World} (hS : HS (resH [k] H) g w) (hk : H k = some o) (hb : g.F k = [b]) (hu : Upd w w' b c' ty) (ho : ∀ w', Go (fun x => x ∈ g.F k) g w g w' → w'.heap[b]? = some (.cells c' ty (0, 0)) → OS g w' k o') : Post H ⟨[], [(k, some o')], [], .top⟩ g w v g w' := by
  have hk' : resH [k] H k = some o := by simp [resH, memN, hk]
  have hX : g.X b := hS.own k o hk' b (by rw [hb]; simp)
  have hch : Chp (fun x => x ∈ g.F k) w w' := ⟨hu.os, hu.tape, hu.output, by rw [hu.size]; exact Nat.le_refl _, fun x hx hn => hu.other x fun e => hn (by rw [hb, e]; simp)⟩
  have hgo : Go (fun x => x ∈ g.F k) g w g w' := ⟨hch, fun x hx => hS.own k o hk' x hx, fun x h => .inl h, fun x h _ => h, fun _ _ h => h, fun _ _ _ => rfl⟩
  have e1 : ∀ j q, lkH (Eff.outs ⟨[], [(k, some o')], [], .top⟩) j = some q → j = k ∧ q = o' := fun j q h => by
    simp only [Eff.outs, List.map_nil, List.append_nil, lkH, lkO] at h
    by_cases e : k = j
    · subst e; simp at h; exact ⟨rfl, h.symm⟩
    · rw [beqf e] at h; cases h
  have hft : ∀ x, x ∈ g.F k → Eff.foot ⟨[], [(k, some o')], [], .top⟩ H g x := fun x hx => ⟨k, by simp [keys], o, hk, hx⟩
  have hft2 : ∀ x, Eff.foot ⟨[], [(k, some o')], [], .top⟩ H g x → x ∈ g.F k := fun x ⟨j, h1, q, h2, h3⟩ => by
    simp only [keys, List.map_cons, List.map_nil, List.mem_singleton] at h1
    subst h1; exact h3
  refine ⟨hgo.mono hft fun x hx => hgo.s x (hft2 x hx), ⟨v, rfl⟩, ⟨fun x hx => by rw [hu.size]; exact hS.wf x hx, fun j q h => ?_, fun j q h x hx => ?_, fun j q j' q' h h' hne => ?_⟩, fun j q h x hx => ?_, fun j u h => .inl h⟩
  · obtain ⟨rfl, rfl⟩ := e1 j q h; exact ho w' hgo hu.blk
  · obtain ⟨rfl, rfl⟩ := e1 j q h; exact hS.own j o hk' x hx
  · exact absurd ((e1 j q h).1.trans (e1 j' q' h').1.symm) hne
  · obtain ⟨rfl, rfl⟩ := e1 j q h; exact .inl (hft x hx)
theorem put_toList (c : Array Value) (o : Nat) (vs : List Value) : (put c o vs).toList = c.toList.take o ++ vs ++ c.toList.drop (o + vs.length) := by simp [put]
theorem exSt_ok {H : Hp} {t : TypeId} {x y : Operand} {k : Nat} {o' : O} (h : exSt P L H t x y = some (k, o')) : EOk P n ⟨ds, .store t x y, ty, pos, af, gu⟩ L (lkH H) ⟨[], [(k, some o')], [], .top⟩ := by
  intro ξ g w hS hH _
  have hS : HS (resH [k] (lkH H)) g w := hS
  have obj : ∀ {o : O}, lkH H k = some o → OS g w k o := fun {o} ho => hS.os k o (by simp [resH, memN, ho])
  unfold exSt at h
  split at h
  · rename_i k' o cs fl m hx hy ht
    obtain ⟨dy, hy1, hy2⟩ := Option.bind_eq_some_iff.1 hy
    obtain ⟨td, t1, t2, t3⟩ := tInf_of ht
    obtain ⟨u, hu, hus⟩ := opD_ev hH hy1
    obtain ⟨c1, c2⟩ := toC_ok hus hy2
    cases hm : Nat.beq (szS cs) m with
    | false => rw [hm] at h; cases h
    | true =>
      rw [hm] at h
      have hm' := Nat.eq_of_beq_eq_true hm
      simp only [cond_true] at h
      split at h
      · rename_i ty' d hk
        obtain ⟨r, h1, h2⟩ := Option.map_eq_some_iff.1 h
        cases h2
        obtain ⟨v, hv, b', e1, e2⟩ := opD_ev hH hx
        cases (List.cons.inj e2).1
        obtain ⟨b, c, k1, k2, k3, k4, k5⟩ := obj hk
        rw [k1] at e1
        cases e1
        have hlen := szS_len c1
        have hsz : u.cells.size = m := by rw [← Array.length_toList, hlen, hm']
        rw [← hm', ← hlen] at h1
        obtain ⟨p1, p2⟩ := putS_ok c1 (sem_segs k4) h1
        refine (ok_storeC t3 hv hu hsz c2 k3 (by simpa [← hsz] using p2)).mono fun v' w' hw => ⟨g, Post.upd hS hk k2 hw fun w' hgo hb => ?_⟩
        refine ⟨b', _, k1, k2, hb, ?_, ?_⟩
        · rw [put_toList]
          exact sem_mv hgo.goes _ _ _ (sem_chain.2 p1)
        · intro q hq
          rw [put_toList] at hq
          rcases List.mem_append.1 hq with hq | hq
          · rcases List.mem_append.1 hq with hq | hq
            · exact k5 q (List.mem_of_mem_take hq)
            · exact c2 q hq
          · exact k5 q (List.mem_of_mem_drop hq)
      · cases h
  · rename_i k' o mm nn i cs fl m hx hy ht
    obtain ⟨dy, hy1, hy2⟩ := Option.bind_eq_some_iff.1 hy
    obtain ⟨td, t1, t2, t3⟩ := tInf_of ht
    obtain ⟨u, hu, hus⟩ := opD_ev hH hy1
    obtain ⟨c1, c2⟩ := toC_ok hus hy2
    cases hm : Nat.beq (szS cs) m with
    | false => rw [hm] at h; cases h
    | true =>
      rw [hm] at h
      have hm' := Nat.eq_of_beq_eq_true hm
      simp only [cond_true] at h
      split at h
      · rename_i ty' d hk
        have hlen := szS_len c1
        have hsz : u.cells.size = m := by rw [← Array.length_toList, hlen, hm']
        have key : ∃ r, o' = .ob ty' (chain r) ∧ k = k' ∧ (∀ l, i < nn → semS g.X g.N w (segs d) l → semS g.X g.N w r (l.take (o + i * mm) ++ u.cells.toList ++ l.drop (o + i * mm + u.cells.toList.length)) ∧ o + i * mm + u.cells.toList.length ≤ l.length) := by
          split at h
          · rename_i r hr
            cases h
            exact ⟨r, rfl, rfl, fun l hi hl => updA_ok c1 hi hl hr⟩
          · obtain ⟨r, h1, h2⟩ := Option.map_eq_some_iff.1 h
            cases h2
            rw [← hm', ← hlen] at h1
            exact ⟨r, rfl, rfl, fun l hi hl => putS_ok c1 hl h1⟩
        obtain ⟨r, rfl, rfl, hr⟩ := key
        obtain ⟨v, hv, hi, b', e1, e2⟩ := opD_ev hH hx
        cases (List.cons.inj e2).1
        obtain ⟨b, c, k1, k2, k3, k4, k5⟩ := obj hk
        rw [k1] at e1
        cases e1
        obtain ⟨p1, p2⟩ := hr _ hi (sem_segs k4)
        refine (ok_storeC t3 hv hu hsz c2 k3 (by simpa [← hsz] using p2)).mono fun v' w' hw => ⟨g, Post.upd hS hk k2 hw fun w' hgo hb => ?_⟩
        refine ⟨b', _, k1, k2, hb, ?_, ?_⟩
        · rw [put_toList]
          exact sem_mv hgo.goes _ _ _ (sem_chain.2 p1)
        · intro q hq
          rw [put_toList] at hq
          rcases List.mem_append.1 hq with hq | hq
          · rcases List.mem_append.1 hq with hq | hq
            · exact k5 q (List.mem_of_mem_take hq)
            · exact c2 q hq
          · exact k5 q (List.mem_of_mem_drop hq)
      · cases h
  · rename_i k' mm nn i o cs fl m hx hy ht
    obtain ⟨dy, hy1, hy2⟩ := Option.bind_eq_some_iff.1 hy
    obtain ⟨td, t1, t2, t3⟩ := tInf_of ht
    obtain ⟨u, hu, hus⟩ := opD_ev hH hy1
    obtain ⟨c1, c2⟩ := toC_ok hus hy2
    cases hm : Nat.beq (szS cs) m with
    | false => rw [hm] at h; cases h
    | true =>
      rw [hm] at h
      have hm' := Nat.eq_of_beq_eq_true hm
      simp only [cond_true] at h
      split at h
      · rename_i ty' e xs hk
        cases hq : Nat.beq mm e.length with
        | false => rw [hq] at h; cases h
        | true =>
          rw [hq] at h
          have := Nat.eq_of_beq_eq_true hq
          subst this
          obtain ⟨r, h1, h2⟩ := Option.map_eq_some_iff.1 h
          cases h2
          obtain ⟨ps, h3, h4⟩ := Option.bind_eq_some_iff.1 h1
          have hlen := szS_len c1
          have hsz : u.cells.size = m := by rw [← Array.length_toList, hlen, hm']
          rw [← hm', ← hlen] at h3
          obtain ⟨v, hv, hi, b', cc, e1, e2⟩ := opD_ev hH hx
          cases (List.cons.inj e2).1
          obtain ⟨v, ls, k1, k2, k3, k4, k5, k6⟩ := obj hk
          rw [k1] at e1
          cases e1
          rcases k3.2 with ⟨h5, _⟩ | ⟨b, cap, cur, h5, _, h6, h7, h8, h9, h10⟩
          · cases h5
          · cases h5
            obtain ⟨l, h11, h12⟩ := k5.get (getD_some (z := rz e) hi)
            obtain ⟨h13, h14⟩ := flat_at k5.row h11
            have hll := k5.row l (List.mem_of_getElem? h11)
            obtain ⟨p1, p2⟩ := putS_ok c1 (sem_rowS h12) h3
            have p3 := toR_ok p1 h4
            have hcs : cur.toList.length = cur.size := Array.length_toList
            have hus' : u.cells.toList.length = u.cells.size := Array.length_toList
            have hcl : xs.length * e.length ≤ cur.toList.length := by rw [hcs, h9]; exact Nat.mul_le_mul_right _ h7
            have hie : (i + 1) * e.length ≤ xs.length * e.length := Nat.mul_le_mul_right _ hi
            rw [Nat.add_mul, Nat.one_mul] at hie
            have hcc : i * e.length + o + m ≤ cur.size := by omega
            refine (ok_storeC t3 hv hu hsz c2 h6 hcc).mono fun v' w' hw => ⟨g, Post.upd hS hk (b := b') (by rw [k2]; rfl) hw fun w' hgo hb => ?_⟩
            have hnew : (ls.set i (l.take o ++ u.cells.toList ++ l.drop (o + u.cells.toList.length))).flatten = (put cur (i * e.length + o) u.cells.toList).toList.take (xs.length * e.length) := by
              rw [put_toList]
              have hcur : cur.toList = ls.flatten ++ cur.toList.drop (xs.length * e.length) := by rw [← h10, List.take_append_drop]
              have hil : i < ls.length := by rw [← k5.len]; exact hi
              have hset : (ls.set i (l.take o ++ u.cells.toList ++ l.drop (o + u.cells.toList.length))) = ls.take i ++ [l.take o ++ u.cells.toList ++ l.drop (o + u.cells.toList.length)] ++ ls.drop (i + 1) := by
                rw [List.set_eq_take_append_cons_drop, if_pos hil]; simp
              rw [hset]
              simp only [List.flatten_append, List.flatten_cons, List.flatten_nil, List.append_nil]
              rw [hcur, h13]
              generalize hA : (ls.take i).flatten = A at h14 ⊢
              generalize hB : (ls.drop (i + 1)).flatten = B
              have hlenB : A.length + l.length + B.length = xs.length * e.length := by
                have := congrArg List.length h13
                rw [← h10, List.length_take, Nat.min_eq_left hcl] at this
                simp only [List.length_append, hA, hB] at this
                omega
              have q1 : (A ++ l ++ B ++ cur.toList.drop (xs.length * e.length)).take (i * e.length + o) = A ++ l.take o := by
                rw [List.append_assoc, List.append_assoc, List.take_append, List.take_of_length_le (by omega), h14, Nat.add_sub_cancel_left, List.take_append_of_le_length (by omega)]
              have q2 : (A ++ l ++ B ++ cur.toList.drop (xs.length * e.length)).drop (i * e.length + o + u.cells.toList.length) = l.drop (o + u.cells.toList.length) ++ (B ++ cur.toList.drop (xs.length * e.length)) := by
                rw [List.append_assoc, List.append_assoc, List.drop_append, List.drop_eq_nil_of_le (by omega), h14, List.nil_append, show i * e.length + o + u.cells.toList.length - i * e.length = o + u.cells.toList.length by omega, List.drop_append_of_le_length (by omega)]
              rw [q1, q2]
              rw [show A ++ l.take o ++ u.cells.toList ++ (l.drop (o + u.cells.toList.length) ++ (B ++ cur.toList.drop (xs.length * e.length))) = (A ++ (l.take o ++ u.cells.toList ++ l.drop (o + u.cells.toList.length)) ++ B) ++ cur.toList.drop (xs.length * e.length) by simp]
              have hln : (A ++ (l.take o ++ u.cells.toList ++ l.drop (o + u.cells.toList.length)) ++ B).length = xs.length * e.length := by
                simp only [List.length_append, List.length_take, List.length_drop]
                omega
              rw [List.take_append_of_le_length (by omega)]
              exact (List.take_of_length_le (by omega)).symm
            have hFa : Fa2 (rS g.X g.N w e) (xs.set i r) (ls.set i (l.take o ++ u.cells.toList ++ l.drop (o + u.cells.toList.length))) := k5.set i p3
            refine ⟨_, _, k1, k2, ⟨?_, .inr ⟨b', cc, _, by rw [List.length_set], Nat.zero_le _, hb, by rw [List.length_set]; exact h7, h8, ?_, ?_⟩⟩, by rw [List.length_set]; exact k4, hFa.mono (rS_mv hgo.goes e), rows_one hFa⟩
            · rw [hnew, List.length_take, List.length_set, put_toList]
              simp
              omega
            · rw [put_size (by rw [hus', hsz]; exact hcc)]; exact h9
            · rw [List.length_set]; exact hnew.symm
      · cases h
  · cases h
end
end Go.Sx
namespace Go.Sx
open Go.Mi Go.RowKit
def valsD : D → Option (List Value)
  | .v x => bif x.oneCell' then some [x] else none
  | .ar k n f => some (cells k n f)
  | _ => none
def valsS : List D → Option (List Value)
  | [] => some []
  | d :: ds => match valsD d, valsS ds with
    | some a, some b => some (a ++ b)
    | _, _ => none
abbrev Zt := List (TypeId × List D)
def lkZ : Zt → TypeId → Option (List D)
  | [], _ => none
  | (s, v) :: r, t => bif Nat.beq s t then some v else lkZ r t
def ZOk (P : Program) : Zt → Prop
  | [] => True
  | (t, ds) :: r => (((P.info? t).bind (·.zero)).map (fun z => z.cells.toList) = valsS ds ∧ (valsS ds).isSome = true) ∧ ZOk P r
def fillS (place : Nat → Option (Nat × Nat)) : List D → List (Nat × D) → Option (List D)
  | ss, [] => some ss
  | ss, (i, d) :: r => match place i, toC d with
    | some (off, sz), some cs => bif Nat.beq (szS cs) sz then (putS cs sz ss off).bind fun q => fillS place q r else none
    | _, _ => none
def partsD (L : DL) : List (Nat × Operand) → Option (List (Nat × D))
  | [] => some []
  | (i, x) :: r => match opD L x, partsD L r with
    | some d, some ds => some ((i, d) :: ds)
    | _, _ => none
def placeS (P : Program) (t : TypeId) : Option (Nat → Option (Nat × Nat)) := match P.underlying t with
  | some (.array _ e) => (P.info? e).map fun i => fun j => some (j * i.size, i.size)
  | some (.struct fs) => (fs.toList.mapM fun f => (P.info? f.type).map fun i => (f.offset, i.size)).map fun pl => fun j => pl.toArray[j]?
  | _ => none
def rowsC (e : List Fk) (m : Nat) : Nat → List D → Option (List (RT e))
  | 0, ss => bif ss.isEmpty then some [] else none
  | k + 1, ss => match (getS ss 0 m).bind (toR e), dropS ss m with
    | some r, some q => (rowsC e m k q).map (r :: ·)
    | _, _ => none
def repS (k : Nat) (ss : List D) : List D := (List.replicate k ss).flatten
section
variable {P : Program} {n : Nat} {L : DL} {ds : Option Nat} {ty : TypeId} {pos : String} {af : Array Edge} {gu : Option (Nat × Bool)} {g : G} {w : World} {X : Nat → Prop} {N : Nat → Option Value}
theorem valsS_ok : ∀ {ss : List D} {l : List Value}, valsS ss = some l → semS X N w ss l ∧ ∀ u ∈ l, u.oneCell' = true
  | [], l, h => by simp only [valsS, Option.some.injEq] at h; subst h; exact ⟨rfl, by simp⟩
  | d :: ss, l, h => by
    simp only [valsS] at h
    split at h
    · rename_i a b h1 h2
      cases h
      obtain ⟨k1, k2⟩ := valsS_ok h2
      have k3 : sem X N w d false a ∧ ∀ u ∈ a, u.oneCell' = true := by
        unfold valsD at h1
        split at h1
        · rename_i x
          cases hx : Value.oneCell' x with
          | false => rw [hx] at h1; cases h1
          | true => rw [hx] at h1; cases h1; exact ⟨rfl, by simpa using hx⟩
        · cases h1
          refine ⟨rfl, fun u hu => ?_⟩
          simp only [cells, List.mem_map] at hu
          obtain ⟨_, _, rfl⟩ := hu
          rfl
        · cases h1
      exact ⟨⟨a, b, rfl, k3.1, k1⟩, fun u hu => (List.mem_append.1 hu).elim (k3.2 u) (k2 u)⟩
    · cases h
theorem lkZ_ok : ∀ {Z : Zt} {t : TypeId} {ss : List D}, ZOk P Z → lkZ Z t = some ss → ∃ z, (P.info? t).bind (·.zero) = some z ∧ valsS ss = some z.cells.toList
  | [], t, ss, _, h => by cases h
  | (s, v) :: r, t, ss, hz, h => by
    simp only [lkZ] at h
    by_cases e : s = t
    · subst e
      simp at h
      subst h
      obtain ⟨⟨h1, h2⟩, _⟩ := hz
      obtain ⟨q, hq⟩ := Option.isSome_iff_exists.1 h2
      rw [hq] at h1
      obtain ⟨z, h3, h4⟩ := Option.map_eq_some_iff.1 h1
      exact ⟨z, h3, by rw [hq, ← h4]⟩
    · rw [beqf e] at h; exact lkZ_ok hz.2 h
theorem fold_put (off : Nat) : ∀ (vs : List Value) (j : Nat) (c : Array Value), off + j + vs.length ≤ c.size → (vs.zipIdx j).foldl (fun (cs : Array Value) (p : Value × Nat) => cs.setIfInBounds (off + p.2) p.1) c = put c (off + j) vs
  | [], j, c, _ => by simp [put]
  | v :: vs, j, c, h => by
    simp only [List.length_cons] at h
    rw [List.zipIdx_cons, List.foldl_cons, fold_put off vs (j + 1) _ (by simp; omega)]
    apply Array.ext'
    rw [put_toList, put_toList, Array.toList_setIfInBounds]
    have hlt : off + j < c.toList.length := by simp; omega
    rw [List.set_eq_take_append_cons_drop, if_pos hlt]
    have e1 : (c.toList.take (off + j)).length = off + j := by rw [List.length_take]; omega
    rw [show off + (j + 1) = off + j + 1 by omega]
    have e2 : (c.toList.take (off + j) ++ v :: c.toList.drop (off + j + 1)).take (off + j + 1) = c.toList.take (off + j) ++ [v] := by
      rw [List.take_append, List.take_of_length_le (by omega), e1, show off + j + 1 - (off + j) = 1 by omega]; simp
    have e3 : (c.toList.take (off + j) ++ v :: c.toList.drop (off + j + 1)).drop (off + j + 1 + vs.length) = c.toList.drop (off + j + (v :: vs).length) := by
      rw [List.drop_append, List.drop_eq_nil_of_le (by omega), e1, show off + j + 1 + vs.length - (off + j) = vs.length + 1 by omega, List.drop_succ_cons, List.drop_drop, List.nil_append]
      congr 1
      simp; omega
    rw [e2, e3]
    simp
theorem fillS_ok {place : Nat → Option (Nat × Nat)} : ∀ {ps : List (Nat × D)} {vs : List (Nat × Value)} {ss ss' : List D} {c : Array Value}, Fa2 (fun (p : Nat × D) (q : Nat × Value) => p.1 = q.1 ∧ Sm g w p.2 q.2) ps vs → semS g.X g.N w ss c.toList → (∀ u ∈ c.toList, u.oneCell' = true) → fillS place ss ps = some ss' →
    ∃ c', Instr.fill place c vs = some c' ∧ semS g.X g.N w ss' c'.toList ∧ (∀ u ∈ c'.toList, u.oneCell' = true) ∧ c'.size = c.size
  | [], [], ss, ss', c, _, h1, h2, h => by simp only [fillS, Option.some.injEq] at h; subst h; exact ⟨c, rfl, h1, h2, rfl⟩
  | (i, d) :: ps, (j, v) :: vs, ss, ss', c, hf, h1, h2, h => by
    obtain ⟨⟨rfl, hd⟩, hf⟩ := hf
    simp only [fillS] at h
    split at h
    · rename_i off sz cs hp hc
      obtain ⟨c1, c2⟩ := toC_ok hd hc
      have hl := szS_len c1
      cases hb : Nat.beq (szS cs) sz with
      | false => rw [hb] at h; cases h
      | true =>
        rw [hb] at h
        have hs := Nat.eq_of_beq_eq_true hb
        simp only [cond_true] at h
        obtain ⟨q, k1, k2⟩ := Option.bind_eq_some_iff.1 h
        rw [← hs, ← hl] at k1
        obtain ⟨p1, p2⟩ := putS_ok c1 h1 k1
        have hlen : v.cells.toList.length = v.cells.size := Array.length_toList
        have hcl : c.toList.length = c.size := Array.length_toList
        have e1 : (put c off v.cells.toList).toList = c.toList.take off ++ v.cells.toList ++ c.toList.drop (off + v.cells.toList.length) := put_toList c off _
        obtain ⟨c', q1, q2, q3, q4⟩ := fillS_ok (ss := q) (c := put c off v.cells.toList) hf (by rw [e1]; exact p1) (fun u hu => by
          rw [e1] at hu
          rcases List.mem_append.1 hu with hu | hu
          · rcases List.mem_append.1 hu with hu | hu
            · exact h2 u (List.mem_of_mem_take hu)
            · exact c2 u hu
          · exact h2 u (List.mem_of_mem_drop hu)) k2
        refine ⟨c', ?_, q2, q3, by rw [q4, put_size (by omega)]⟩
        have hsz : v.cells.size = sz := by rw [← hlen, hl, hs]
        have hno : ¬ ((decide (v.cells.size ≠ sz) || decide (off + v.cells.size > c.size)) = true) := by simp; omega
        simp only [Instr.fill, hp]
        rw [if_neg hno]
        rw [← q1]
        congr 1
        rw [← Array.foldl_toList, Array.toList_zipIdx]
        have := fold_put off v.cells.toList 0 c (by omega)
        simpa using this
    · cases h
theorem partsD_ev {ξ : Nat → Value} (hH : Hold L ξ g w) : ∀ {ps : List (Nat × Operand)} {es : List (Nat × D)}, partsD L ps = some es → ∃ vs : List (Nat × Value), (∀ a nn, Frm a nn (exL L ξ) → ps.map (fun p => (p.1, a.eval p.2)) = vs) ∧ Fa2 (fun (p : Nat × D) (q : Nat × Value) => p.1 = q.1 ∧ Sm g w p.2 q.2) es vs
  | [], es, h => by simp only [partsD, Option.some.injEq] at h; subst h; exact ⟨[], fun _ _ _ => rfl, trivial⟩
  | (i, x) :: r, es, h => by
    simp only [partsD] at h
    split at h
    · rename_i d es' h1 h2
      cases h
      obtain ⟨v, k1, k2⟩ := opD_ev hH h1
      obtain ⟨vs, k3, k4⟩ := partsD_ev hH h2
      exact ⟨(i, v) :: vs, fun a nn hF => by rw [List.map_cons, k3 a nn hF, hF.eval k1], ⟨rfl, k2⟩, k4⟩
    · cases h
def exBuild (P : Program) (Z : Zt) (L : DL) (t : TypeId) (ps : List (Nat × Operand)) : Option D := match lkZ Z t, placeS P t, partsD L ps with
  | some zs, some pl, some ds => (fillS pl zs ds).map mk1
  | _, _, _ => none
theorem exBuild_ok {Z : Zt} {t : TypeId} {ps : Array (Nat × Operand)} {d : D} (hZ : ZOk P Z) (h : exBuild P Z L t ps.toList = some d) : PureOk P n ⟨ds, .build t ps, ty, pos, af, gu⟩ L d [] := by
  intro _ ξ g w hH _
  unfold exBuild at h
  split at h
  · rename_i zs pl es hz hp hps
    obtain ⟨ss, h1, rfl⟩ := Option.map_eq_some_iff.1 h
    obtain ⟨z, hz1, hz2⟩ := lkZ_ok hZ hz
    obtain ⟨v1, v2⟩ := valsS_ok (X := g.X) (N := g.N) (w := w) hz2
    obtain ⟨vs, k1, k2⟩ := partsD_ev hH hps
    obtain ⟨c', q1, q2, q3, q4⟩ := fillS_ok k2 v1 v2 h1
    refine ⟨.agg c', ?_, Det.of_run fun a hF => ?_⟩
    · have := mk1_ok q2 q3
      simpa using this
    · have e1 : (ps.map fun p => (p.1, a.eval p.2)).toList = vs := by rw [Array.toList_map]; exact k1 a n hF
      obtain ⟨it, hi, hzr⟩ := Option.bind_eq_some_iff.1 hz1
      have hb : P.built t (ps.map fun p => (p.1, a.eval p.2)).toList = some c' := by
        rw [e1]
        unfold placeS at hp
        unfold Program.built
        split at hp
        · rename_i len e hu
          obtain ⟨ie, h2, rfl⟩ := Option.map_eq_some_iff.1 hp
          simp only [hi, hu, hzr, h2]
          exact q1
        · rename_i fs hu
          obtain ⟨places, h2, rfl⟩ := Option.map_eq_some_iff.1 hp
          simp only [hi, hu, hzr, h2]
          exact q1
        · cases hp
      simp only [execOp, Sem.run_bind, run_build w t _ c' hb, Result.andThen_ok]
      rfl
  · cases h
end
end Go.Sx
namespace Go.Sx
open Go.Mi Go.RowKit
section
variable {P : Program} {n : Nat} {L : DL} {ds : Option Nat} {ty : TypeId} {pos : String} {af : Array Edge} {gu : Option (Nat × Bool)} {g : G} {w w' : World} {H : Nat → Option O}
def G.more (g : G) (k : Nat) (v : Value) (F : List Nat) (X : Nat → Prop) : G := ⟨fun j => bif Nat.beq k j then some v else g.N j, fun j => bif Nat.beq k j then F else g.F j, X⟩
theorem G.more_N {g : G} {k : Nat} {v : Value} {F : List Nat} {X : Nat → Prop} : (g.more k v F X).N k = some v := by simp [G.more]
theorem G.more_F {g : G} {k : Nat} {v : Value} {F : List Nat} {X : Nat → Prop} : (g.more k v F X).F k = F := by simp [G.more]
theorem Go.more {S : Nat → Prop} {k : Nat} {v : Value} {F : List Nat} {X : Nat → Prop} (hk : g.N k = none) (hch : Chp S w w') (hs : ∀ x, S x → g.X x) (hx : ∀ x, X x → g.X x ∨ w.heap.size ≤ x) (hx2 : ∀ x, g.X x → ¬ S x → X x) : Go S g w (g.more k v F X) w' := by
  refine ⟨hch, hs, hx, hx2, fun j u hj => ?_, fun j u hj => ?_⟩
  · have : ¬ k = j := fun e => by subst e; rw [hk] at hj; cases hj
    simp only [G.more, beqf this]; exact hj
  · have : ¬ k = j := fun e => by subst e; rw [hk] at hj; cases hj
    simp only [G.more, beqf this]; rfl
/-- nothing that is owned changes -/
theorem Post.quiet {rd : List Nat} {d : D} {v : Value} (hw : Wf g w) (hc : Chp (fun _ => False) w w') (h : Sm g w' d v) : Post H ⟨rd, [], [], d⟩ g w v g w' := by
  have hf : ∀ x, ¬ Eff.foot ⟨rd, [], [], d⟩ H g x := fun x ⟨k, hk, _⟩ => by simp [keys] at hk
  refine ⟨⟨⟨hc.os, hc.tape, hc.output, hc.size, fun b hb _ => hc.blk b hb id⟩, fun x hx => (hf x hx).elim, fun x h => .inl h, fun x h _ => h, fun _ _ h => h, fun _ _ _ => rfl⟩, h, ⟨fun x hx => Nat.lt_of_lt_of_le (hw x hx) hc.size, fun k o h => by simp [Eff.outs, lkH, lkO] at h, fun k o h => by simp [Eff.outs, lkH, lkO] at h, fun k o k' o' h => by simp [Eff.outs, lkH, lkO] at h⟩, fun k o h => by simp [Eff.outs, lkH, lkO] at h, fun k v h => .inl h⟩
/-- something new, perhaps in place of something else -/
theorem Post.new {rd : List Nat} {wr : Hp} {k : Nat} {o : O} {d : D} {v u : Value} {F : List Nat} (hS : HS (resH (rd ++ keys wr) H) g w) (hk : g.N k = none) (hwr : ∀ p ∈ wr, p.2 = none) (hkw : k ∉ keys wr) (hch : Chp (Eff.foot ⟨rd, wr, [(k, o)], d⟩ H g) w w')
    (hF : ∀ b ∈ F, (Eff.foot ⟨rd, wr, [(k, o)], d⟩ H g b ∨ w.heap.size ≤ b) ∧ b < w'.heap.size)
    (ho : ∀ g', Go (Eff.foot ⟨rd, wr, [(k, o)], d⟩ H g) g w g' w' → g'.N k = some u → g'.F k = F → OS g' w' k o ∧ Sm g' w' d v) : ∃ g', Post H ⟨rd, wr, [(k, o)], d⟩ g w v g' w' := by
  have hfx : ∀ x, Eff.foot ⟨rd, wr, [(k, o)], d⟩ H g x → g.X x := fun x ⟨j, h1, q, h2, h3⟩ => hS.own j q (by
    have : memN j (rd ++ keys wr) = true := memN_iff.2 (List.mem_append_right _ h1)
    simp only [resH, this]; exact h2) x h3
  have hg := Go.more (v := u) (F := F) (X := fun x => (g.X x ∧ ¬ Eff.foot ⟨rd, wr, [(k, o)], d⟩ H g x) ∨ x ∈ F) hk hch hfx (fun x hx => by
    rcases hx with hx | hx
    · exact .inl hx.1
    · exact (hF x hx).1.imp (hfx x) id) (fun x hx hn => .inl ⟨hx, hn⟩)
  obtain ⟨h1, h2⟩ := ho _ hg G.more_N G.more_F
  have e1 : ∀ j q, lkH (Eff.outs ⟨rd, wr, [(k, o)], d⟩) j = some q → j = k ∧ q = o := fun j q h => by
    have h := lkH_some.1 h
    simp only [Eff.outs, List.map_cons, List.map_nil] at h
    rw [lkO_app] at h
    cases hw : lkO wr j with
    | some q' =>
      rw [hw] at h
      cases h
      have key : ∀ (wr : Hp), (∀ p ∈ wr, p.2 = none) → lkO wr j ≠ some (some q) := by
        intro wr
        induction wr with
        | nil => intro _ h; cases h
        | cons p wr ih =>
          intro hp h
          obtain ⟨s, p2⟩ := p
          simp only [lkO] at h
          by_cases e : s = j
          · subst e; simp at h; have := hp (s, p2) (List.mem_cons_self ..); simp at this; rw [this] at h; cases h
          · rw [beqf e] at h; exact ih (fun p hp' => hp p (List.mem_cons_of_mem _ hp')) h
      exact absurd hw (key wr hwr)
    | none =>
      rw [hw] at h
      simp only [lkO] at h
      by_cases e : k = j
      · subst e; simp at h; exact ⟨rfl, h.symm⟩
      · rw [beqf e] at h; cases h
  refine ⟨_, hg, h2, ⟨fun x hx => ?_, fun j q h => ?_, fun j q h x hx => ?_, fun j q j' q' h h' hne => ?_⟩, fun j q h x hx => ?_, fun j u' h => ?_⟩
  · rcases hx with hx | hx
    · exact Nat.lt_of_lt_of_le (hS.wf x hx.1) hch.size
    · exact (hF x hx).2
  · obtain ⟨rfl, rfl⟩ := e1 j q h; exact h1
  · obtain ⟨rfl, rfl⟩ := e1 j q h; rw [G.more_F] at hx; exact .inr hx
  · exact absurd ((e1 j q h).1.trans (e1 j' q' h').1.symm) hne
  · obtain ⟨rfl, rfl⟩ := e1 j q h; rw [G.more_F] at hx; exact (hF x hx).1
  · by_cases e : k = j
    · subst e; exact .inr (by simp [keys])
    · simp only [G.more, beqf e] at h; exact .inl h
end
end Go.Sx
namespace Go.Sx
open Go.Mi Go.RowKit
section
variable {P : Program} {n : Nat} {L : DL} {ds : Option Nat} {ty : TypeId} {pos : String} {af : Array Edge} {gu : Option (Nat × Bool)} {g : G} {w w' : World} {H : Nat → Option O}
theorem NewB.at {b : Nat} {c : Array Value} {t : TypeId} (h : NewB w w' b c t) : b = w.heap.size ∧ w'.heap[b]? = some (.cells c t (0, 0)) ∧ Chp (fun _ => False) w w' ∧ w'.heap.size = w.heap.size + 1 := by
  obtain ⟨rfl, rfl⟩ := h
  have h1 : (w.alloc (.cells c t)).heap = w.heap.push (.cells c t) := rfl
  refine ⟨rfl, by rw [h1]; simp, ⟨rfl, rfl, rfl, by rw [h1]; simp, fun b hb _ => by rw [h1, Array.getElem?_push_lt hb, Array.getElem?_eq_getElem hb]⟩, by rw [h1]; simp⟩
/-- a new object -/
theorem new_ob {k b : Nat} {c : Array Value} {t : TypeId} {ds' : D} (hS : HS (resH [] H) g w) (hk : g.N k = none) (hn : NewB w w' b c t) (hs : sem g.X g.N w ds' false c.toList) (h1 : ∀ u ∈ c.toList, u.oneCell' = true) : ∃ g', Post H ⟨[], [], [(k, .ob t ds')], .cp k 0⟩ g w (vp b) g' w' := by
  obtain ⟨e1, e2, e3, e4⟩ := NewB.at hn
  refine Post.new (u := vp b) (F := [b]) (by simpa [keys] using hS) hk (by simp) (by simp [keys]) ⟨e3.os, e3.tape, e3.output, e3.size, fun x hx _ => e3.blk x hx id⟩ (fun x hx => by simp at hx; subst hx; exact ⟨.inr (by omega), by omega⟩) fun g' hg hN hF => ⟨⟨b, c, hN, hF, e2, sem_mv hg.goes _ _ _ hs, h1⟩, ⟨b, hN, rfl⟩⟩
def exAlloc (Z : Zt) (t : TypeId) (nb : Nat) : Option Eff := (lkZ Z t).map fun zs => ⟨[], [], [(nb, .ob t (chain zs))], .cp nb 0⟩
theorem exAlloc_ok {Z : Zt} {t : TypeId} {nb : Nat} {e : Eff} (hZ : ZOk P Z) (h : exAlloc Z t nb = some e) : EOk P n ⟨ds, .alloc t, ty, pos, af, gu⟩ L H e := by
  obtain ⟨zs, hz, rfl⟩ := Option.map_eq_some_iff.1 h
  intro ξ g w hS hH hn
  obtain ⟨z, hz1, hz2⟩ := lkZ_ok hZ hz
  obtain ⟨v1, v2⟩ := valsS_ok (X := g.X) (N := g.N) (w := w) hz2
  refine (ok_alloc hz1).mono fun v w' ⟨b, hv, hb⟩ => ?_
  subst hv
  exact new_ob hS (hn (nb, _) (List.mem_singleton.2 rfl)) hb (sem_chain.2 v1) v2
def exBox (L : DL) (t : TypeId) (x : Operand) (nb : Nat) : Option Eff := ((opD L x).bind toC).map fun cs => ⟨[], [], [(nb, .ob t (chain cs))], .cp nb 0⟩
theorem exBox_ok {t : TypeId} {x : Operand} {nb : Nat} {e : Eff} (h : exBox L t x nb = some e) : EOk P n ⟨ds, .box t x, ty, pos, af, gu⟩ L H e := by
  obtain ⟨cs, hc, rfl⟩ := Option.map_eq_some_iff.1 h
  obtain ⟨d, h1, h2⟩ := Option.bind_eq_some_iff.1 hc
  intro ξ g w hS hH hn
  obtain ⟨u, hu, hus⟩ := opD_ev hH h1
  obtain ⟨c1, c2⟩ := toC_ok hus h2
  refine (ok_box hu).mono fun v w' ⟨b, hv, hb⟩ => ?_
  subst hv
  exact new_ob hS (hn (nb, _) (List.mem_singleton.2 rfl)) hb (sem_chain.2 c1) c2
/-! ### slices that are written out -/
theorem semS_rep {X : Nat → Prop} {N : Nat → Option Value} {ss : List D} {l : List Value} (h : semS X N w ss l) : ∀ k, semS X N w (repS k ss) (List.replicate k l).flatten
  | 0 => rfl
  | k + 1 => by
    simp only [repS, List.replicate_succ, List.flatten_cons]
    exact semS_app.2 ⟨l, _, rfl, h, semS_rep h k⟩
theorem rowsC_ok {X : Nat → Prop} {N : Nat → Option Value} {e : List Fk} {m : Nat} (hm : 0 < m) : ∀ {k : Nat} {ss : List D} {rows : List (RT e)} {l : List Value}, semS X N w ss l → rowsC e m k ss = some rows → ∃ ls, l = ls.flatten ∧ Fa2 (rS X N w e) rows ls ∧ rows.length = k
  | 0, ss, rows, l, h, hr => by
    simp only [rowsC] at hr
    cases ss with
    | nil => cases hr; exact ⟨[], h, trivial, rfl⟩
    | cons d ss => cases hr
  | k + 1, ss, rows, l, h, hr => by
    simp only [rowsC] at hr
    split at hr
    · rename_i r q h1 h2
      obtain ⟨rs, h3, rfl⟩ := Option.map_eq_some_iff.1 hr
      obtain ⟨es, h4, h5⟩ := Option.bind_eq_some_iff.1 h1
      obtain ⟨k1, k2⟩ := getS_ok h h4
      obtain ⟨k3, k4⟩ := dropS_ok h h2
      obtain ⟨ls, k5, k6, k7⟩ := rowsC_ok hm k3 h3
      refine ⟨l.take m :: ls, ?_, ⟨by simpa using toR_ok k1 h5, k6⟩, by simp [k7]⟩
      rw [List.flatten_cons, ← k5, List.take_append_drop]
    · cases hr
abbrev Kt := List (TypeId × List Fk)
def lkK : Kt → TypeId → Option (List Fk)
  | [], _ => none
  | (s, v) :: r, t => bif Nat.beq s t then some v else lkK r t
def elemOf (P : Program) (t : TypeId) : Option TypeId := match P.underlying t with
  | some (.slice e) => some e
  | _ => none
def sizeOfT (P : Program) (t : TypeId) : Option Nat := (P.info? t).map (·.size)
structure Bs where
  te : TypeId
  e : List Fk
  rows : List (RT e)
def exBs (P : Program) (Z : Zt) (K : Kt) (L : DL) (t : TypeId) (len : Nat) (ps : List (Nat × Operand)) : Option Bs := match elemOf P t with
  | some te => (match sizeOfT P te, lkZ Z te, lkK K te, partsD L ps with
    | some m, some zs, some e, some qs => bif Nat.blt 0 m && Nat.blt 0 len && Nat.ble (len * m) 16777216 && Nat.beq e.length m && Nat.beq (szS zs) m then
        ((fillS (fun i => some (i * m, m)) (repS len zs) qs).bind (rowsC e m len)).map fun rows => ⟨te, e, rows⟩ else none
    | _, _, _, _ => none)
  | none => none
theorem range_map_mod {zs : List Value} {len m : Nat} (hz : zs.length = m) : ((Array.range (len * m)).map (fun i => zs.toArray[i % zs.toArray.size]!)).toList = (List.replicate len zs).flatten := by
  subst hz
  apply List.ext_getElem?
  intro i
  by_cases hi : i < len * zs.length
  · have h0 : 0 < zs.length := by
      rcases Nat.eq_zero_or_pos zs.length with h | h
      · rw [h] at hi; simp at hi
      · exact h
    have hmod := Nat.mod_lt i h0
    have hr : ∀ (len : Nat) (i : Nat), i < len * zs.length → ((List.replicate len zs).flatten)[i]? = zs[i % zs.length]? := by
      intro len
      induction len with
      | zero => intro i hi; simp at hi
      | succ k ih =>
        intro i hi
        rw [List.replicate_succ, List.flatten_cons, List.getElem?_append]
        split
        · rename_i h; rw [Nat.mod_eq_of_lt h]
        · rename_i h
          rw [Nat.succ_mul] at hi
          rw [ih (i - zs.length) (by omega)]
          congr 1
          exact (Nat.mod_eq_sub_mod (by omega)).symm
    rw [hr len i hi]
    simp [hi, hmod]
  · have h1 : ((Array.range (len * zs.length)).map (fun i => zs.toArray[i % zs.toArray.size]!)).toList.length = len * zs.length := by simp
    have h2 : (List.replicate len zs).flatten.length = len * zs.length := by simp
    rw [List.getElem?_eq_none (by rw [h1]; exact Nat.le_of_not_lt hi), List.getElem?_eq_none (by rw [h2]; exact Nat.le_of_not_lt hi)]
theorem exBs_ok {Z : Zt} {K : Kt} {t : TypeId} {len : Nat} {ps : Array (Nat × Operand)} {B : Bs} {ξ : Nat → Value} (hZ : ZOk P Z) (h : exBs P Z K L t len ps.toList = some B) (hH : Hold L ξ g w) :
    Ok1 P ⟨ds, .buildSlice t len ps, ty, pos, af, gu⟩ n (exL L ξ) w fun v w' => ∃ b c ls, v = vS b 0 len len ∧ NewB w w' b c B.te ∧ c.toList = ls.flatten ∧ Fa2 (rS g.X g.N w B.e) B.rows ls ∧ B.rows.length = len ∧ len ≤ maxLen ∧ 0 < len := by
  unfold exBs at h
  split at h
  · rename_i te he
    split at h
    · rename_i m zs e qs hm hz hk hq
      cases hc : Nat.blt 0 m && Nat.blt 0 len && Nat.ble (len * m) 16777216 && Nat.beq e.length m && Nat.beq (szS zs) m with
      | false => rw [hc] at h; cases h
      | true =>
        rw [hc] at h
        simp only [Bool.and_eq_true, Nat.blt_eq] at hc
        obtain ⟨⟨⟨⟨c1, c2⟩, c3⟩, c4⟩, c5⟩ := hc
        have c3 := Nat.le_of_ble_eq_true c3
        have c5 := Nat.eq_of_beq_eq_true c5
        obtain ⟨rows, h1, rfl⟩ := Option.map_eq_some_iff.1 h
        obtain ⟨ss, h2, h3⟩ := Option.bind_eq_some_iff.1 h1
        obtain ⟨z, hz1, hz2⟩ := lkZ_ok hZ hz
        obtain ⟨v1, v2⟩ := valsS_ok (X := g.X) (N := g.N) (w := w) hz2
        obtain ⟨vs, k1, k2⟩ := partsD_ev hH hq
        obtain ⟨inf, hi, hzr⟩ := Option.bind_eq_some_iff.1 hz1
        have hms : inf.size = m := by unfold sizeOfT at hm; rw [hi] at hm; simpa using hm
        have hu : P.underlying t = some (.slice te) := by
          unfold elemOf at he
          split at he
          · rename_i e' hu; cases he; exact hu
          · cases he
        have hzl : z.cells.toList.length = m := by rw [szS_len v1, c5]
        have e0 : ((Array.range (len * m)).map (z.cells[· % z.cells.size]!)).toList = (List.replicate len z.cells.toList).flatten := by
          have := range_map_mod (len := len) hzl
          simpa using this
        obtain ⟨c', q1, q2, q3, q4⟩ := fillS_ok (c := (Array.range (len * m)).map (z.cells[· % z.cells.size]!)) k2 (by rw [e0]; exact semS_rep v1 len) (fun u hu => by
          rw [e0] at hu
          obtain ⟨l, hl, hu⟩ := List.mem_flatten.1 hu
          rw [List.mem_replicate] at hl
          rw [hl.2] at hu
          exact v2 u hu) h2
        obtain ⟨ls, p1, p2, p3⟩ := rowsC_ok c1 q2 h3
        have hd : Det P ⟨ds, .buildSlice t len ps, ty, pos, af, gu⟩ n (exL L ξ) w (vS w.heap.size 0 len len) (w.alloc (.cells c' te)) := Det.of_run fun a hF => by
          have e1 : (ps.map fun p => (p.1, a.eval p.2)).toList = vs := by rw [Array.toList_map]; exact k1 a n hF
          have hp := Nat.mul_pos c2 c1
          have h1' : ¬ len * m > 2 ^ 24 := by omega
          have h0 : ¬ len * m = 0 := by omega
          simp only [execOp, Instr.buildSlice, Sem.run_bind, run_underlying' hu, Result.andThen_ok, sizeOf, typeInfo, zeroValue]
          simp [hi, hms, hzr, h1', h0]
          simp only [Array.toList_map] at e1
          rw [e1, q1]
          simp [newRow]
        refine hd.mono fun v w' ⟨r1, r2⟩ => ⟨_, c', ls, r1, ⟨rfl, r2⟩, p1, p2, p3, ?_, c2⟩
        have : len ≤ len * m := Nat.le_mul_of_pos_right len c1
        simp only [maxLen]
        omega
    · cases h
  · cases h
def exBsI (B : Bs) : Eff := ⟨[], [], [], .ls true B.e B.rows⟩
def exBsO (B : Bs) (nb : Nat) : Eff := ⟨[], [], [(nb, .sl B.te B.e B.rows)], .sk nb⟩
theorem exBsI_ok {Z : Zt} {K : Kt} {t : TypeId} {len : Nat} {ps : Array (Nat × Operand)} {B : Bs} (hZ : ZOk P Z) (h : exBs P Z K L t len ps.toList = some B) (hm : sizeOfT P B.te = some B.e.length) : EOk P n ⟨ds, .buildSlice t len ps, ty, pos, af, gu⟩ L H (exBsI B) := by
  intro ξ g w hS hH hn
  refine (exBs_ok hZ h hH).mono fun v w' ⟨b, c, ls, hv, hb, h1, h2, h3, h4, _⟩ => ⟨g, ?_⟩
  subst hv
  obtain ⟨e1, e2, e3, e4⟩ := NewB.at hb
  refine Post.quiet hS.wf e3 ⟨_, ls, rfl, ⟨by rw [h3]; exact h4, ?_, .inr ⟨b, 0, len, by rw [h3], by rw [h3]; exact Nat.le_refl _, h4, fun hx => ?_, by omega, ?_⟩⟩, h2.mono fun x l hr => ?_⟩
  · have := h2.row
    have hl : ls.length = B.rows.length := h2.len.symm
    rw [← hl]
    clear h2 h1 hl
    induction ls with
    | nil => simp
    | cons l ls ih =>
      rw [List.flatten_cons, List.length_append, List.length_cons, Nat.succ_mul, ih fun l hl => this l (List.mem_cons_of_mem _ hl), this l (List.mem_cons_self ..)]
      omega
  · have := hS.wf b hx; omega
  · rw [← h1]; exact At.of_blk e2
  · exact rS_mv (S := fun _ => False) ⟨e3, fun _ h => h.elim, fun _ h => .inl h, fun _ _ h => h⟩ _ _ _ hr
theorem flat_len {α : Type} {m : Nat} : ∀ {ls : List (List α)}, (∀ l ∈ ls, l.length = m) → ls.flatten.length = ls.length * m
  | [], _ => by simp
  | l :: ls, h => by
    rw [List.flatten_cons, List.length_append, List.length_cons, Nat.succ_mul, flat_len fun l hl => h l (List.mem_cons_of_mem _ hl), h l (List.mem_cons_self ..)]
    omega
/-- a new slice that is owned -/
theorem new_sl {k b c te : Nat} {wr : Hp} {rd : List Nat} {cc : Array Value} {e : List Fk} {rows : List (RT e)} {ls : List (List Value)} (hS : HS (resH rd H) g w) (hk : g.N k = none) (hn : NewB w w' b cc te) (h1 : cc.toList = ls.flatten) (h2 : Fa2 (rS g.X g.N w e) rows ls) (hm : rows.length ≤ maxLen) :
    ∃ g', Post H ⟨rd, [], [(k, .sl te e rows)], .sk k⟩ g w (vS b 0 rows.length rows.length) g' w' := by
  obtain ⟨e1, e2, e3, e4⟩ := NewB.at hn
  have hlen : cc.toList.length = rows.length * e.length := by rw [h1, flat_len h2.row, h2.len]
  have hsz : cc.size = rows.length * e.length := hlen
  refine Post.new (u := vS b 0 rows.length rows.length) (F := [b]) (by simpa [keys] using hS) hk (by simp) (by simp [keys]) ⟨e3.os, e3.tape, e3.output, e3.size, fun x hx _ => e3.blk x hx id⟩ (fun x hx => by simp at hx; subst hx; exact ⟨.inr (by omega), by omega⟩) fun g' hg hN hF => ⟨⟨_, ls, hN, hF, ⟨by rw [← h1]; exact hlen, .inr ⟨b, rows.length, cc, rfl, Nat.zero_le _, e2, Nat.le_refl _, hm, hsz, by rw [← hlen, List.take_length, h1]⟩⟩, hm, h2.mono (rS_mv hg.goes e), rows_one h2⟩, ⟨_, hN, rfl, rfl⟩⟩
theorem exBsO_ok {Z : Zt} {K : Kt} {t : TypeId} {len : Nat} {ps : Array (Nat × Operand)} {B : Bs} {nb : Nat} (hZ : ZOk P Z) (h : exBs P Z K L t len ps.toList = some B) : EOk P n ⟨ds, .buildSlice t len ps, ty, pos, af, gu⟩ L H (exBsO B nb) := by
  intro ξ g w hS hH hn
  refine (exBs_ok hZ h hH).mono fun v w' ⟨b, c, ls, hv, hb, h1, h2, h3, h4, _⟩ => ?_
  subst hv
  have hS' : HS (resH [] H) g w := hS
  have := new_sl (k := nb) (rd := []) (c := 0) (wr := []) hS' (hn (nb, _) (List.mem_singleton.2 rfl)) hb h1 h2 (by rw [h3]; exact h4)
  rw [h3] at this
  exact this
/-! ### make -/
def exMk (P : Program) (K : Kt) (L : DL) (t : TypeId) (x y : Operand) (nb : Nat) : Option (Eff × List Prop) := match elemOf P t, opD L x, opD L y with
  | some te, some (.v (.int .i64 i)), some (.v (.int .i64 j)) => (match P.info? te, lkK K te with
    | some inf, some [a] => (match inf.zero with
      | some z => bif Nat.beq inf.size 1 && z.oneCell' then (toF a (.v z)).map fun q => (⟨[], [], [(nb, .sl te [a] (List.replicate i.toNat q))], .sk nb⟩, [i = j, 0 ≤ i, inf.bytes * i.toNat ≤ 281474976710656, i ≤ 9223372036854775807]) else none
      | none => none)
    | _, _ => none)
  | _, _, _ => none
theorem elemOf_of {t te : TypeId} (h : elemOf P t = some te) : P.underlying t = some (.slice te) := by
  unfold elemOf at h
  split at h
  · rename_i e' hu; cases h; exact hu
  · cases h
theorem exMk_ok {K : Kt} {t : TypeId} {x y : Operand} {nb : Nat} {e : Eff} {ps : List Prop} (h : exMk P K L t x y nb = some (e, ps)) (hp : AllP ps) (hxy : y = x) : EOk P n ⟨ds, .makeSlice t x y, ty, pos, af, gu⟩ L H e := by
  subst hxy
  unfold exMk at h
  split at h
  · rename_i te i j he hx hy
    split at h
    · rename_i inf a hi hk
      split at h
      · rename_i z hz
        cases hb : Nat.beq inf.size 1 && z.oneCell' with
        | false => rw [hb] at h; cases h
        | true =>
          rw [hb] at h
          rw [Bool.and_eq_true] at hb
          have hs1 := Nat.eq_of_beq_eq_true hb.1
          simp only [cond_true] at h
          obtain ⟨q, hq, h2⟩ := Option.map_eq_some_iff.1 h
          simp only [Prod.mk.injEq] at h2
          obtain ⟨rfl, rfl⟩ := h2
          obtain ⟨_, p2, p3, p4, _⟩ := hp
          intro ξ g w hS hH hn
          have hS' : HS (resH [] H) g w := hS
          obtain ⟨m, rfl⟩ := Int.eq_ofNat_of_zero_le p2
          have hm : m < 2 ^ 63 := by omega
          simp only [Int.toNat_natCast] at p3
          refine (ok_make (m := m) (bytes := inf.bytes) (z := z) (elemOf_of he) (by rw [hi, Option.map_some, hs1, hz]) (opD_v hH hx) hb.2 (by omega) hm).mono fun v w' ⟨b, hv, hbn⟩ => ?_
          subst hv
          have hf : fS g.X g.N w a q z := (toF_ok (X := g.X) (N := g.N) (w := w) (m := true) (v := z) (d := .v z) (show [z] = [z] from rfl) hq).1
          have hfl : ∀ k : Nat, Fa2 (rS g.X g.N w [a]) (List.replicate k q) (List.replicate k [z]) := by
            intro k
            induction k with
            | zero => trivial
            | succ k ih => exact ⟨⟨z, rfl, hf⟩, ih⟩
          have hfl2 : ∀ k : Nat, ((Array.range k).map fun _ => z).toList = (List.replicate k [z]).flatten := by
            intro k
            simp [List.map_const']
          have hl : (List.replicate m q).length = m := by simp
          have := new_sl (k := nb) (rd := []) (c := 0) (wr := []) (te := te) (e := [a]) (rows := List.replicate m q) hS' (hn (nb, _) (List.mem_singleton.2 rfl)) hbn (hfl2 m) (hfl m) (by simp only [List.length_replicate, maxLen]; omega)
          rw [List.length_replicate] at this
          exact this
      · cases h
    · cases h
  · cases h
end
end Go.Sx
namespace Go.Sx
open Go.Mi Go.RowKit
/-- rows of cells that are read, in one go -/
inductive Src (g : G) (w : World) (e : List Fk) (xs : List (RT e)) (v : Value) : Prop where
  | nil (h1 : v = vN) (h2 : xs = [])
  | at (b o c : Nat) (ls : List (List Value)) (h1 : v = vS b o xs.length c) (h2 : At w b o ls.flatten) (h3 : Fa2 (rS g.X g.N w e) xs ls)
structure Sx where
  e : List Fk
  xs : List (RT e)
  rd : List Nat
def srcD (H : Hp) : D → Option Sx
  | .ls _ e xs => some ⟨e, xs, []⟩
  | .sk k => (match lkH H k with
    | some (.sl _ e xs) => some ⟨e, xs, [k]⟩
    | _ => none)
  | _ => none
section
variable {P : Program} {n : Nat} {L : DL} {ds : Option Nat} {ty : TypeId} {pos : String} {af : Array Edge} {gu : Option (Nat × Bool)} {g : G} {w w' : World} {H : Hp}
theorem srcD_ok {d : D} {s : Sx} {v : Value} (hos : ∀ k o, k ∈ s.rd → lkH H k = some o → OS g w k o) (h : srcD H d = some s) (hd : Sm g w d v) : Src g w s.e s.xs v := by
  unfold srcD at h
  split at h
  · rename_i nn e xs
    cases h
    obtain ⟨u, ls, h1, h2, h3⟩ := hd
    cases (List.cons.inj h1).1
    rcases h2.shape with ⟨rfl, h4, _⟩ | ⟨b, o, c, rfl, _, h4⟩
    · exact .nil rfl (List.eq_nil_of_length_eq_zero h4)
    · exact .at b o c ls rfl h4 h3
  · rename_i k
    split at h
    · rename_i te e xs hk
      cases h
      obtain ⟨u, h1, h2, _⟩ := hd
      cases (List.cons.inj h2).1
      obtain ⟨v', ls, k1, k2, k3, k4, k5, k6⟩ := hos k _ (by simp) hk
      rw [k1] at h1
      cases h1
      rcases k3.at with ⟨rfl, h4, _⟩ | ⟨b, cap, rfl, _, h4⟩
      · exact .nil rfl (List.eq_nil_of_length_eq_zero h4)
      · exact .at b 0 cap ls rfl h4 k5
    · cases h
  · cases h
/-- append to what is owned, of rows that are known -/
theorem ok_app {s x : Operand} {t te : TypeId} {inf : TypeInfo} {z v u : Value} {e : List Fk} {xs ys : List (RT e)} {ls : List (List Value)} {Lv : List (Nat × Value)} (ht : P.underlying t = some (.slice te)) (hi : P.info? te = some inf) (hz : inf.zero = some z) (hm : inf.size = e.length) (hzs : z.cells.size = e.length) (hm0 : 0 < e.length)
    (hs : ev Lv s = some v) (hx : ev Lv x = some u) (hown : Own w 0 te e.length v xs.length ls.flatten) (hF : Fa2 (rS g.X g.N w e) xs ls) (hu : Src g w e ys u) (h63 : xs.length + ys.length ≤ maxLen) (hby : (xs.length + ys.length) * inf.bytes ≤ 140737488355328) :
    Ok1 P ⟨ds, .call ⟨.builtin .append, #[s, x], #[t, t]⟩, ty, pos, af, gu⟩ n Lv w fun v' w' => ∃ ms, Own w' 0 te e.length v' (xs ++ ys).length ms.flatten ∧ Fa2 (rS g.X g.N w e) (xs ++ ys) ms ∧ Ch (oblk v) w w' ∧ (oblk v' = oblk v ∨ oblk v' = [w.heap.size]) := by
  cases hu with
  | nil h1 h2 =>
    subst h1; subst h2
    have hd : Det P ⟨ds, .call ⟨.builtin .append, #[s, x], #[t, t]⟩, ty, pos, af, gu⟩ n Lv w v w := Det.of_run fun a hF => by
      have hr : (Builtin.append_ #[t, t] ty #[v, vN]).run P w = .ok v w := by
        rcases hown.2 with ⟨rfl, h0⟩ | ⟨b, cap, cur, rfl, _, hb, hc, hc2, hcs, hct⟩
        · simp [Builtin.append_, run_underlying' ht, sizeOf, typeInfo, hi, Builtin.lenOf, Builtin.firstCells]
        · have h5 : (storeCells ((⟨b, 0, none⟩ : Addr).add (xs.length * inf.size)) []).run P w = .ok () w := rfl
          simp [Builtin.append_, run_underlying' ht, sizeOf, typeInfo, hi, Builtin.lenOf, Builtin.firstCells, hc, h5]
      simp [execOp, hF.eval hs, hF.eval hx, resolve, invoke, builtin, hr]
    refine hd.mono fun v' w' ⟨e1, e2⟩ => ?_
    subst e1; subst e2
    exact ⟨ls, by simpa using hown, by simpa using hF, Ch.refl _ _, .inl rfl⟩
  | «at» b o c ms h1 h2 h3 =>
    subst h1
    have hml : ms.flatten.length = ys.length * e.length := by rw [flat_len h3.row, h3.len]
    refine (ok_append ht hi hz hm rfl hzs hm0 hs hx hown hml h2 (rows_one h3) h63 hby (Nat.zero_le _)).mono fun v' w' ⟨k1, k2, k3⟩ => ⟨ls ++ ms, ?_, hF.append h3, k2, k3⟩
    rw [List.length_append, List.flatten_append]
    exact k1
structure Ap where
  te : TypeId
  e : List Fk
  xs : List (RT e)
  ys : List (RT e)
  wr : Hp
  rd : List Nat
def castR (a b : List Fk) (xs : List (RT a)) : Option (List (RT b)) := if h : a = b then some (h ▸ xs) else none
def zeroSz (inf : TypeInfo) (m : Nat) : Bool := match inf.zero with
  | some z => Nat.beq z.cells.size m
  | none => false
/-- from which, with what more -/
def exAp (P : Program) (K : Kt) (L : DL) (H : Hp) (t : TypeId) (s x : Operand) : Option Ap := match elemOf P t, opD L s with
  | some te, some (.v (.slice none 0 0)) => (match lkK K te, (opD L x).bind (srcD H) with
    | some e, some q => (castR q.e e q.xs).map fun ys => ⟨te, e, [], ys, [], q.rd⟩
    | _, _ => none)
  | some te, some (.sk k) => (match lkH H k, opD L x with
    | some (.sl te' e xs), some (.v (.slice none 0 0)) => bif Nat.beq te te' then some ⟨te, e, xs, [], [(k, none)], []⟩ else none
    | some (.sl te' e xs), some d => (match srcD H d with
      | some q => bif Nat.beq te te' && !(memN k q.rd) then (castR q.e e q.xs).map fun ys => ⟨te, e, xs, ys, [(k, none)], q.rd⟩ else none
      | none => none)
    | _, _ => none)
  | _, _ => none
def exApE (P : Program) (A : Ap) (nb : Nat) : Option (Eff × List Prop) := match P.info? A.te with
  | some inf => bif Nat.beq inf.size A.e.length && zeroSz inf A.e.length && Nat.blt 0 A.e.length then some (⟨A.rd, A.wr, [(nb, .sl A.te A.e (A.xs ++ A.ys))], .sk nb⟩, [A.xs.length + A.ys.length ≤ 9223372036854775807, (A.xs.length + A.ys.length) * inf.bytes ≤ 140737488355328]) else none
  | none => none
theorem castR_eq {a b : List Fk} {xs : List (RT a)} {ys : List (RT b)} (h : castR a b xs = some ys) : ∃ e : a = b, ys = e ▸ xs := by
  unfold castR at h
  split at h
  · rename_i e; simp only [Option.some.injEq] at h; exact ⟨e, h.symm⟩
  · cases h
theorem Src.cast {a b : List Fk} {xs : List (RT a)} {ys : List (RT b)} {v : Value} (h : Src g w a xs v) (hc : castR a b xs = some ys) : Src g w b ys v := by
  obtain ⟨rfl, rfl⟩ := castR_eq hc
  exact h
/-- what is known of an append's operands -/
structure ApIs (H : Hp) (g : G) (w : World) (A : Ap) (v u : Value) : Prop where
  own : ∃ ls, Own w 0 A.te A.e.length v A.xs.length ls.flatten ∧ Fa2 (rS g.X g.N w A.e) A.xs ls
  src : Src g w A.e A.ys u
  wr : (A.wr = [] ∧ oblk v = []) ∨ ∃ k o, A.wr = [(k, none)] ∧ lkH H k = some o ∧ g.F k = oblk v
theorem exAp_ok {K : Kt} {t : TypeId} {s x : Operand} {A : Ap} {ξ : Nat → Value} (h : exAp P K L H t s x = some A) (hS : HS (resH (A.rd ++ keys A.wr) (lkH H)) g w) (hH : Hold L ξ g w) : P.underlying t = some (.slice A.te) ∧ ∃ v u, ev (exL L ξ) s = some v ∧ ev (exL L ξ) x = some u ∧ ApIs H g w A v u := by
  have obj : ∀ k o, k ∈ A.rd ++ keys A.wr → lkH H k = some o → OS g w k o := fun k o hk ho => hS.os k o (by simp only [resH, memN_iff.2 hk]; exact ho)
  unfold exAp at h
  split at h
  · rename_i te he hs
    split at h
    · rename_i e q hk hx
      obtain ⟨ys, hc, rfl⟩ := Option.map_eq_some_iff.1 h
      obtain ⟨d, hx1, hx2⟩ := Option.bind_eq_some_iff.1 hx
      obtain ⟨u, hu, hus⟩ := opD_ev hH hx1
      have hsr := srcD_ok (fun k o hk ho => obj k o (List.mem_append_left _ hk) ho) hx2 hus
      exact ⟨elemOf_of he, vN, u, opD_v hH hs, hu, ⟨[], ⟨by simp, .inl ⟨rfl, rfl⟩⟩, trivial⟩, hsr.cast hc, .inl ⟨rfl, rfl⟩⟩
    · cases h
  · rename_i te k he hs
    obtain ⟨v, hv, v', h1, h2, _⟩ := opD_ev hH hs
    cases (List.cons.inj h2).1
    split at h
    · rename_i te' e xs hk hx
      cases hb : Nat.beq te te' with
      | false => rw [hb] at h; cases h
      | true =>
        rw [hb] at h
        have := Nat.eq_of_beq_eq_true hb
        subst this
        cases h
        obtain ⟨v2, ls, k1, k2, k3, k4, k5, k6⟩ := obj k _ (by simp [keys]) hk
        rw [h1] at k1
        cases k1
        exact ⟨elemOf_of he, v, vN, hv, opD_v hH hx, ⟨ls, k3, k5⟩, .nil rfl rfl, .inr ⟨k, _, rfl, hk, k2⟩⟩
    · rename_i te' e xs d _ hk hx
      split at h
      · rename_i q hq
        cases hb : Nat.beq te te' && !(memN k q.rd) with
        | false => rw [hb] at h; cases h
        | true =>
          rw [hb] at h
          rw [Bool.and_eq_true] at hb
          have := Nat.eq_of_beq_eq_true hb.1
          subst this
          obtain ⟨ys, hc, rfl⟩ := Option.map_eq_some_iff.1 h
          obtain ⟨u, hu, hus⟩ := opD_ev hH hx
          have hsr := srcD_ok (fun k o hk ho => obj k o (List.mem_append_left _ hk) ho) hq hus
          obtain ⟨v2, ls, k1, k2, k3, k4, k5, k6⟩ := obj k _ (by simp [keys]) hk
          rw [h1] at k1
          cases k1
          exact ⟨elemOf_of he, v, u, hv, hu, ⟨ls, k3, k5⟩, hsr.cast hc, .inr ⟨k, _, rfl, hk, k2⟩⟩
      · cases h
    · cases h
  · cases h
theorem exApE_ok {K : Kt} {t : TypeId} {s x : Operand} {A : Ap} {nb : Nat} {e : Eff} {ps : List Prop} (h : exAp P K L H t s x = some A) (h2 : exApE P A nb = some (e, ps)) (hp : AllP ps) : EOk P n ⟨ds, .call ⟨.builtin .append, #[s, x], #[t, t]⟩, ty, pos, af, gu⟩ L (lkH H) e := by
  unfold exApE at h2
  split at h2
  · rename_i inf hi
    cases hb : Nat.beq inf.size A.e.length && zeroSz inf A.e.length && Nat.blt 0 A.e.length with
    | false => rw [hb] at h2; cases h2
    | true =>
      rw [hb] at h2
      simp only [Bool.and_eq_true, Nat.blt_eq] at hb
      obtain ⟨⟨b1, b2⟩, b3⟩ := hb
      have b1 := Nat.eq_of_beq_eq_true b1
      simp only [cond_true, Option.some.injEq, Prod.mk.injEq] at h2
      obtain ⟨rfl, rfl⟩ := h2
      obtain ⟨p1, p2, _⟩ := hp
      unfold zeroSz at b2
      split at b2
      · rename_i z hz
        have b2 := Nat.eq_of_beq_eq_true b2
        intro ξ g w hS hH hn
        have hS' : HS (resH (A.rd ++ keys A.wr) (lkH H)) g w := hS
        obtain ⟨hu, v, u, hv, hu2, hA⟩ := exAp_ok h hS' hH
        obtain ⟨ls, o1, o2⟩ := hA.own
        refine (ok_app hu hi hz b1 b2 b3 hv hu2 o1 o2 hA.src (by simp only [maxLen]; omega) p2).mono fun v' w' ⟨ms, q1, q2, q3, q4⟩ => ?_
        have hft : ∀ b ∈ oblk v, Eff.foot ⟨A.rd, A.wr, [(nb, .sl A.te A.e (A.xs ++ A.ys))], .sk nb⟩ (lkH H) g b := fun b hb => by
          rcases hA.wr with ⟨_, h0⟩ | ⟨k, o, h1, h2, h3⟩
          · rw [h0] at hb; simp at hb
          · exact ⟨k, by simp [h1, keys], o, h2, by rw [h3]; exact hb⟩
        have hkw : nb ∉ keys A.wr := fun hk => by
          rcases hA.wr with ⟨h0, _⟩ | ⟨k, o, h1, h2, h3⟩
          · rw [h0] at hk; simp [keys] at hk
          · rw [h1] at hk
            simp only [keys, List.map_cons, List.map_nil, List.mem_singleton] at hk
            subst hk
            have hos : OS g w nb o := hS'.os nb o (by simp only [resH, memN_iff.2 (show nb ∈ A.rd ++ keys A.wr by simp [h1, keys])]; exact h2)
            have hN : g.N nb = none := hn (nb, _) (List.mem_singleton.2 rfl)
            cases o with
            | ob ty ds => obtain ⟨b, c, k1, _⟩ := hos; rw [hN] at k1; cases k1
            | sl ty e xs => obtain ⟨b, c, k1, _⟩ := hos; rw [hN] at k1; cases k1
        refine Post.new (u := v') (F := oblk v') hS' (hn (nb, _) (List.mem_singleton.2 rfl)) (fun p hp => ?_) hkw ⟨q3.os, q3.tape, q3.output, q3.size, fun b hb hnf => q3.blk b hb fun hm => hnf (hft b hm)⟩ (fun b hb => ⟨?_, (q1.lt b hb).2⟩) fun g' hg hN hF => ⟨⟨v', ms, hN, hF, q1, ?_, q2.mono (rS_mv hg.goes A.e), rows_one q2⟩, ⟨v', hN, rfl, ?_⟩⟩
        · rcases hA.wr with ⟨h0, _⟩ | ⟨k, o, h1, _⟩
          · rw [h0] at hp; simp at hp
          · rw [h1] at hp; simp at hp; rw [hp]
        · rcases q4 with q4 | q4
          · rw [q4] at hb; exact .inl (hft b hb)
          · rw [q4] at hb; simp at hb; exact .inr (by omega)
        · simp only [maxLen, List.length_append]; omega
        · rcases q1.at with ⟨rfl, _⟩ | ⟨b, cap, rfl, _⟩ <;> rfl
      · cases b2
  · cases h2
end
end Go.Sx
namespace Go.Sx
open Go.Mi Go.RowKit
def bndD (L : DL) : Option Operand → Option (Option Int)
  | none => some none
  | some x => match opD L x with
    | some (.v (.int _ i)) => some (some i)
    | _ => none
def bl (o : Option Int) (d : Nat) : Nat := match o with
  | some i => i.toNat
  | none => d
def nnI : Option Int → Prop
  | some i => 0 ≤ i
  | none => True
/-- low, high, max, within so many -/
def bndP (lo hi mx : Option Int) (n c : Nat) : Prop := nnI lo ∧ nnI hi ∧ nnI mx ∧ (mx.isSome = true → hi.isSome = true) ∧ bl lo 0 ≤ bl hi n ∧ bl hi n ≤ bl mx c ∧ bl mx c ≤ c
def cutL {α : Type} (lo hi : Option Int) (xs : List α) : List α := match lo, hi with
  | none, none => xs
  | none, some h => xs.take h.toNat
  | some l, none => xs.drop l.toNat
  | some l, some h => (xs.take h.toNat).drop l.toNat
theorem cutL_eq {α : Type} (lo hi : Option Int) (xs : List α) : cutL lo hi xs = (xs.take (bl hi xs.length)).drop (bl lo 0) := by
  unfold cutL bl
  cases lo <;> cases hi <;> simp
section
variable {P : Program} {n : Nat} {L : DL} {ds : Option Nat} {ty : TypeId} {pos : String} {af : Array Edge} {gu : Option (Nat × Bool)} {g : G} {w w' : World}
def ovI (k : Option Int) (kk : IntKind) : Option Value := k.map (Value.int kk)
/-- operands of a slice's bounds -/
structure BndV (a : Act) (x : Option Operand) (i : Option Int) : Prop where
  h : (x = none ∧ i = none) ∨ ∃ y k j, x = some y ∧ i = some j ∧ a.eval y = .int k j
theorem bndD_ev {ξ : Nat → Value} {x : Option Operand} {i : Option Int} (hH : Hold L ξ g w) (h : bndD L x = some i) : ∀ a nn, Frm a nn (exL L ξ) → BndV a x i := by
  intro a nn hF
  unfold bndD at h
  split at h
  · cases h; exact ⟨.inl ⟨rfl, rfl⟩⟩
  · rename_i y
    split at h
    · rename_i k j hy
      cases h
      exact ⟨.inr ⟨y, k, j, rfl, rfl, hF.eval (opD_v hH hy)⟩⟩
    · cases h
theorem run_bound {v : Value} {k : IntKind} {j : Int} {y : Nat} {c : BoundsCode} (hv : v = .int k j) (h0 : 0 ≤ j) (h1 : j ≤ y) : (Instr.sliceBound v y c).run P w = .ok j.toNat w := by
  subst hv
  simp [Instr.sliceBound, asIntOf, h0, h1]
theorem run_bounds {a : Act} {sl : Bool} {xl xh xm : Option Operand} {lo hi mx : Option Int} {m c : Nat} (hl : BndV a xl lo) (hh : BndV a xh hi) (hm : BndV a xm mx) (h : bndP lo hi mx m c) : (Instr.sliceBounds sl m c (xl.map a.eval) (xh.map a.eval) (xm.map a.eval)).run P w = .ok (bl lo 0, bl hi m, bl mx c) w := by
  obtain ⟨n1, n2, n3, n4, n5, n6, n7⟩ := h
  rcases hm.h with ⟨rfl, rfl⟩ | ⟨ym, km, jm, rfl, rfl, hvm⟩ <;> rcases hh.h with ⟨rfl, rfl⟩ | ⟨yh, kh, jh, rfl, rfl, hvh⟩ <;> rcases hl.h with ⟨rfl, rfl⟩ | ⟨yl, kl, jl, rfl, rfl, hvl⟩ <;> simp only [nnI, bl] at n1 n2 n3 n5 n6 n7
  · simp [Instr.sliceBounds, bl]
  · obtain ⟨jl, rfl⟩ := Int.eq_ofNat_of_zero_le n1
    simp only [Int.toNat_natCast] at n5 n6 n7
    simp [Instr.sliceBounds, bl, hvl, Instr.sliceBound, asIntOf, n5]
  · obtain ⟨jh, rfl⟩ := Int.eq_ofNat_of_zero_le n2
    simp only [Int.toNat_natCast] at n5 n6 n7
    simp [Instr.sliceBounds, bl, hvh, Instr.sliceBound, asIntOf, n6]
  · obtain ⟨jh, rfl⟩ := Int.eq_ofNat_of_zero_le n2
    obtain ⟨jl, rfl⟩ := Int.eq_ofNat_of_zero_le n1
    simp only [Int.toNat_natCast] at n5 n6 n7
    simp [Instr.sliceBounds, bl, hvh, hvl, Instr.sliceBound, asIntOf, n6, n5]
  · have := n4 rfl; cases this
  · have := n4 rfl; cases this
  · obtain ⟨jh, rfl⟩ := Int.eq_ofNat_of_zero_le n2
    obtain ⟨jm, rfl⟩ := Int.eq_ofNat_of_zero_le n3
    simp only [Int.toNat_natCast] at n5 n6 n7
    simp [Instr.sliceBounds, bl, hvh, hvm, Instr.sliceBound, asIntOf, n7, n6]
  · obtain ⟨jh, rfl⟩ := Int.eq_ofNat_of_zero_le n2
    obtain ⟨jl, rfl⟩ := Int.eq_ofNat_of_zero_le n1
    obtain ⟨jm, rfl⟩ := Int.eq_ofNat_of_zero_le n3
    simp only [Int.toNat_natCast] at n5 n6 n7
    simp [Instr.sliceBounds, bl, hvh, hvl, hvm, Instr.sliceBound, asIntOf, n7, n6, n5]
/-- a slice of a slice, or of an array that is pointed to -/
theorem d_cut {x : Operand} {xl xh xm : Option Operand} {t te : TypeId} {lo hi mx : Option Int} {m len cap : Nat} {ad : Option Addr} {Lv : List (Nat × Value)} (ht : P.underlying t = some (.slice te)) (hs : (P.info? te).map (·.size) = some m) (hx : ev Lv x = some (.slice ad len cap))
    (hb : ∀ a, Frm a n Lv → BndV a xl lo ∧ BndV a xh hi ∧ BndV a xm mx) (h : bndP lo hi mx len cap) : Det P ⟨ds, .slice t x xl xh xm, ty, pos, af, gu⟩ n Lv w (.slice (if bl mx cap = bl lo 0 then ad else ad.map (·.add (bl lo 0 * m))) (bl hi len - bl lo 0) (bl mx cap - bl lo 0)) w :=
  Det.of_run fun a hF => by
    obtain ⟨h1, h2, h3⟩ := hb a hF
    obtain ⟨inf, hi', hz⟩ := Option.map_eq_some_iff.1 hs
    have hr := run_bounds (P := P) (w := w) (sl := true) h1 h2 h3 h
    have hsz : (sizeOf te).run P w = .ok m w := by simp [sizeOf, typeInfo, hi', hz]
    simp only [execOp, hF.eval hx, Instr.sliceAt, Sem.run_bind, run_underlying' ht, Result.andThen_ok, Instr.slice, hr, hsz]
    rfl
theorem d_cutA {x : Operand} {xl xh xm : Option Operand} {t te : TypeId} {lo hi mx : Option Int} {m len b o : Nat} {Lv : List (Nat × Value)} (ht : P.underlying t = some (.array len te)) (hs : (P.info? te).map (·.size) = some m) (hx : ev Lv x = some (vP b o))
    (hb : ∀ a, Frm a n Lv → BndV a xl lo ∧ BndV a xh hi ∧ BndV a xm mx) (h : bndP lo hi mx len len) : Det P ⟨ds, .slice t x xl xh xm, ty, pos, af, gu⟩ n Lv w (.slice (some (if bl mx len = bl lo 0 then ⟨b, o, none⟩ else ⟨b, o + bl lo 0 * m, none⟩)) (bl hi len - bl lo 0) (bl mx len - bl lo 0)) w :=
  Det.of_run fun a hF => by
    obtain ⟨h1, h2, h3⟩ := hb a hF
    obtain ⟨inf, hi', hz⟩ := Option.map_eq_some_iff.1 hs
    have hr := run_bounds (P := P) (w := w) (sl := false) h1 h2 h3 h
    have hsz : (sizeOf te).run P w = .ok m w := by simp [sizeOf, typeInfo, hi', hz]
    simp only [execOp, hF.eval hx, Instr.sliceAt, Sem.run_bind, run_underlying' ht, Result.andThen_ok, Instr.sureAddr, Sem.run_pure, hr, hsz, add_none]
def exCut (P : Program) (L : DL) (t : TypeId) (x : Operand) (xl xh xm : Option Operand) : Option (D × List Prop) := match opD L x, bndD L xl, bndD L xh, bndD L xm with
  | some (.ls nn e xs), some lo, some hi, some mx => (match sInf P t with
    | some m => bif Nat.beq e.length m then some (.ls nn e (cutL lo hi xs), [bndP lo hi mx xs.length xs.length]) else none
    | none => none)
  | some (.v (.slice none 0 0)), some lo, some hi, some mx => (match sInf P t with
    | some _ => some (.v vN, [bndP lo hi mx 0 0])
    | none => none)
  | some (.cp k o), some lo, some hi, some mx => (match aInf P t with
    | some (len, m) => bif Nat.beq m 1 then some (.sv k (o + bl lo 0) (bl hi len - bl lo 0), [bndP lo hi mx len len, len ≤ 9223372036854775807, bl lo 0 < bl mx len]) else none
    | none => none)
  | _, _, _, _ => none
theorem exCut_ok {t : TypeId} {x : Operand} {xl xh xm : Option Operand} {d : D} {ps : List Prop} (h : exCut P L t x xl xh xm = some (d, ps)) : PureOk P n ⟨ds, .slice t x xl xh xm, ty, pos, af, gu⟩ L d ps := by
  intro hp ξ g w hH _
  unfold exCut at h
  split at h
  · rename_i nn e xs lo hi mx hx h1 h2 h3
    split at h
    · rename_i m hsi
      obtain ⟨te, u1, u2⟩ := sInf_of hsi
      cases hb : Nat.beq e.length m with
      | false => rw [hb] at h; cases h
      | true =>
        rw [hb] at h
        have := Nat.eq_of_beq_eq_true hb
        subst this
        cases h
        obtain ⟨v, hv, u, ls, k1, k2, k3⟩ := opD_ev hH hx
        cases (List.cons.inj k1).1
        obtain ⟨hp1, _⟩ := hp
        have bnd := fun a hF => (⟨bndD_ev hH h1 a n hF, bndD_ev hH h2 a n hF, bndD_ev hH h3 a n hF⟩ : BndV a xl lo ∧ BndV a xh hi ∧ BndV a xm mx)
        have q := hp1
        obtain ⟨n1, n2, n3, n4, n5, n6, n7⟩ := hp1
        have hcl : (cutL lo hi xs).length = bl hi xs.length - bl lo 0 := by
          rw [cutL_eq, List.length_drop, List.length_take, Nat.min_eq_left (by cases mx <;> simp only [bl] at n6 n7 ⊢ <;> omega)]
        have hfa : Fa2 (rS g.X g.N w e) (cutL lo hi xs) ((ls.take (bl hi xs.length)).drop (bl lo 0)) := by
          rw [cutL_eq]; exact (k3.take _).drop _
        have hml := flat_len hfa.row
        rcases k2.at' with ⟨j1, j2, rfl⟩ | ⟨b, o, c, rfl, j1, j2, j3, j4, j5⟩
        · have e1 : bl mx 0 = bl lo 0 := by rw [j2] at n5 n6 n7; have := n5; cases mx <;> cases lo <;> simp only [bl] at * <;> omega
          have hd := d_cut (P := P) (n := n) (w := w) (ds := ds) (ty := ty) (pos := pos) (af := af) (gu := gu) u1 u2 hv bnd (by rw [j2] at q; exact q)
          rw [if_pos e1] at hd
          have z1 : bl hi 0 - bl lo 0 = 0 := by rw [j2] at n5 n6 n7; omega
          have z2 : bl mx 0 - bl lo 0 = 0 := by omega
          rw [z1, z2] at hd
          have hc0 : (cutL lo hi xs).length = 0 := by rw [hcl, j2]; exact z1
          refine ⟨_, ⟨vN, _, rfl, ⟨by rw [hc0]; exact Nat.zero_le _, by rw [hml, ← hfa.len], .inl ⟨j1, hc0, rfl⟩⟩, hfa⟩, hd⟩
        · have q2 : bndP lo hi mx xs.length c := ⟨n1, n2, n3, n4, n5, by cases mx <;> simp only [bl] at n6 n7 ⊢ <;> omega, by cases mx <;> simp only [bl] at n6 n7 ⊢ <;> omega⟩
          have hd := d_cut (P := P) (n := n) (w := w) (ds := ds) (ty := ty) (pos := pos) (af := af) (gu := gu) u1 u2 hv bnd q2
          have hbm : bl hi xs.length ≤ bl mx c := q2.2.2.2.2.2.1
          have hbc : bl mx c ≤ c := q2.2.2.2.2.2.2
          have ha : At w b (o + bl lo 0 * e.length) ((ls.take (bl hi xs.length)).drop (bl lo 0)).flatten := by
            have e1 : ls.flatten = ((ls.take (bl hi xs.length)).take (bl lo 0)).flatten ++ ((ls.take (bl hi xs.length)).drop (bl lo 0)).flatten ++ (ls.drop (bl hi xs.length)).flatten := by
              rw [← List.flatten_append, List.take_append_drop, ← List.flatten_append, List.take_append_drop]
            have := At.sub j5 e1
            rw [flat_len (m := e.length) (fun l hl => k3.row l (List.mem_of_mem_take (List.mem_of_mem_take hl)))] at this
            have e2 : ((ls.take (bl hi xs.length)).take (bl lo 0)).length = bl lo 0 := by
              rw [List.length_take, List.length_take, ← k3.len]
              have : bl hi xs.length ≤ xs.length := by cases mx <;> simp only [bl] at n6 n7 ⊢ <;> omega
              omega
            rwa [e2] at this
          by_cases hz : bl mx c = bl lo 0
          · rw [if_pos hz] at hd
            have z1 : bl hi xs.length - bl lo 0 = 0 := by omega
            have hc0 : (cutL lo hi xs).length = 0 := by rw [hcl]; exact z1
            refine ⟨_, ⟨_, _, rfl, ⟨by rw [hc0]; exact Nat.zero_le _, by rw [hml, ← hfa.len], .inr ⟨b, o, _, by rw [hcl], by rw [hcl]; omega, by omega, j3, j4, ?_⟩⟩, hfa⟩, hd⟩
            have hnil : ((ls.take (bl hi xs.length)).drop (bl lo 0)).flatten = [] := by
              apply List.eq_nil_of_length_eq_zero
              rw [hml, ← hfa.len, hc0, Nat.zero_mul]
            rw [hnil]
            intro i u hu; simp at hu
          · rw [if_neg hz] at hd
            simp only [Option.map_some, add_none] at hd
            refine ⟨_, ⟨_, _, rfl, ⟨by rw [hcl]; have := k2.le; omega, by rw [hml, ← hfa.len], .inr ⟨b, o + bl lo 0 * e.length, _, by rw [hcl], by rw [hcl]; omega, by omega, j3, j4, ha⟩⟩, hfa⟩, hd⟩
    · cases h
  · rename_i lo hi mx hx h1 h2 h3
    split at h
    · rename_i m hsi
      cases h
      obtain ⟨te, u1, u2⟩ := sInf_of hsi
      have bnd := fun a hF => (⟨bndD_ev hH h1 a n hF, bndD_ev hH h2 a n hF, bndD_ev hH h3 a n hF⟩ : BndV a xl lo ∧ BndV a xh hi ∧ BndV a xm mx)
      have hd := d_cut (P := P) (n := n) (w := w) (ds := ds) (ty := ty) (pos := pos) (af := af) (gu := gu) u1 u2 (opD_v hH hx) bnd hp.1
      obtain ⟨n1, n2, n3, n4, n5, n6, n7⟩ := hp.1
      rw [if_pos (by omega), show bl hi 0 - bl lo 0 = 0 by omega, show bl mx 0 - bl lo 0 = 0 by omega] at hd
      exact ⟨_, rfl, hd⟩
    · cases h
  · rename_i k o lo hi mx hx h1 h2 h3
    split at h
    · rename_i len m ha
      cases hb : Nat.beq m 1 with
      | false => rw [hb] at h; cases h
      | true =>
        rw [hb] at h
        have := Nat.eq_of_beq_eq_true hb
        subst this
        cases h
        obtain ⟨te, u1, u2⟩ := aInf_of ha
        obtain ⟨p1, p2, p3, _⟩ := hp
        obtain ⟨v, hv, b, k1, k2⟩ := opD_ev hH hx
        cases (List.cons.inj k2).1
        have bnd := fun a hF => (⟨bndD_ev hH h1 a n hF, bndD_ev hH h2 a n hF, bndD_ev hH h3 a n hF⟩ : BndV a xl lo ∧ BndV a xh hi ∧ BndV a xm mx)
        have hd := d_cutA (P := P) (n := n) (w := w) (ds := ds) (ty := ty) (pos := pos) (af := af) (gu := gu) u1 u2 hv bnd p1
        obtain ⟨n1, n2, n3, n4, n5, n6, n7⟩ := p1
        rw [if_neg (by omega), Nat.mul_one] at hd
        refine ⟨_, ⟨b, _, k1, rfl, by omega, ?_⟩, hd⟩
        simp only [maxLen]
        omega
    · cases h
  · cases h
end
end Go.Sx
