/- General lemmas, walks. -/
import Derived.Recover
import Derived.LoopN
import Derived.Test.YtmkplecnmklbfaaGreatProg
import Derived.Test.YtmkplecnmklbfaaGreatJ2PRoots
set_option maxRecDepth 100000
set_option maxHeartbeats 1000000
set_option linter.unusedSimpArgs false
set_option linter.unusedVariables false
set_option linter.unnecessarySimpa false
set_option linter.unusedSectionVars false
namespace Go.Sx
open Go.Mi Go.RowKit
variable [Dfr]
inductive R2 where
 | frz
 | at (p v : Nat)
 | ta
 | nn
 | mf
def lkR2 : List (Nat × R2) → Nat → Option R2
 | [], _ => none
 | (s, v) :: r, t => bif Nat.beq s t then some v else lkR2 r t
def exFz (P : Program) (L : DL) (H : Hp) (t : TypeId) (x : Operand) : Option (Eff × List Prop) := match opD L x, aInf P t with
 | some (.cp k o), some (len, m) => (match lkH H k with
  | some (.ob _ d) => (match segs d with
   | [.ar kk n f] => bif Nat.beq m 1 && Nat.beq o 0 && Nat.beq n len && Nat.blt 0 len && Nat.ble len 140737488355328 then some (⟨[], [(k, none)], [], .ls true [.int kk] ((List.range n).map f : List Int)⟩, []) else none
   | _ => none)
  | _ => none)
 | _, _ => none
def exSap (P : Program) (L : DL) (H : Hp) (t : TypeId) (x : Operand) : Option (Eff × List Prop) := match opD L x, aInf P t with
 | some (.sk k), some (len, _) => (match lkH H k with
  | some (.sl _ e xs) => bif Nat.beq e.length 1 then some (⟨[k], [], [], .xp k 1 xs.length 0 0⟩, [len ≤ xs.length, 0 < xs.length]) else none
  | _ => none)
 | some (.sv k o n), some (len, _) => some (⟨[], [], [], .cp k o⟩, [len ≤ n])
 | _, _ => none
def exLdA (P : Program) (L : DL) (H : Hp) (t : TypeId) (x : Operand) (p v : Nat) : Option (Eff × List Prop) := match opD L x, tInf P t with
 | some (.cp k o), some (false, m) => (match lkH H k with
  | some (.ob _ d) => (match (segs d)[p]? with
   | some (.ar kk q f) => some (⟨[k], [], [], .ar kk m fun j => f (v + j)⟩, [o = szS ((segs d).take p) + v, v + m ≤ q])
   | _ => none)
  | _ => none)
 | some (.xp k mm _ i o), some (false, m) => (match lkH H k with
  | some (.sl _ [.int kk] xs) => bif Nat.beq mm 1 && Nat.beq o 0 then some (⟨[k], [], [], .ar kk m fun j => List.getD (α := Int) xs (i + j) 0⟩, [i + m ≤ xs.length]) else none
  | _ => none)
 | _, _ => none
def exTa (P : Program) (L : DL) (x : Operand) (T : TypeId) (ok : Bool) : Option (Eff × List Prop) := match opD L x, P.underlying T with
 | some (.v (.iface t v)), some (.int _) => bif Nat.beq t T && v.oneCell' && ok then some (⟨[], [], [], .tu (chain [.v v, .v (.bool true)])⟩, []) else none
 | _, _ => none
def exNn (P : Program) (L : DL) (t : TypeId) (x : Operand) : Option (Eff × List Prop) := match opD L x, P.underlying t with
 | some (.v .nilIface), some (.interface _) => some (⟨[], [], [], .v (.bool false)⟩, [])
 | _, _ => none
def exMf (P : Program) (K : Kt) (t : TypeId) (x y : Operand) : Option (Eff × List Prop) := match exMk P K [] t x y 0 with
 | some (⟨[], [], [(_, .sl _ [.int k] xs)], _⟩, ps) => some (⟨[], [], [], .ls false [.int k] xs⟩, ps)
 | _ => none
def exA2 (E : Env) (C : List (Nat × Rx)) (C2 : List (Nat × R2)) : Ex := fun i L H nb o => match lkR2 C2 i with
 | none => exA E C i L H nb o
 | some .frz => (match o.op with
  | .slice t x none none none => exFz E.P L H t x
  | .sliceToArrayPointer t x => exSap E.P L H t x
  | _ => none)
 | some (.at p v) => (match o.op with
  | .load t x => exLdA E.P L H t x p v
  | _ => none)
 | some .ta => (match o.op with
  | .typeAssert x _ T ok => exTa E.P L x T ok
  | _ => none)
 | some .nn => (match o.op with
  | .binOp .neq t x (.const .nilIface) _ => exNn E.P L t x
  | _ => none)
 | some .mf => (match o.op with
  | .makeSlice t x y => exMf E.P E.K t x y
  | _ => none)
section
variable {P : Program} {n : Nat} {L : DL} {H : Hp} {ds : Option Nat} {ty : TypeId} {pos : String} {af : Array Edge} {gu : Option (Nat × Bool)} {X : Nat → Prop} {N : Nat → Option Value} {w : World}
theorem szS_cons (d : D) (r : List D) : szS (d :: r) = szD d + szS r := rfl
theorem semS_at : ∀ {ss : List D} {l : List Value} {p : Nat} {d : D}, semS X N w ss l → ss[p]? = some d → sem X N w d false ((l.drop (szS (ss.take p))).take (szD d))
 | [], _, _, _, _, h => by simp at h
 | e :: ss, l, 0, d, ⟨l1, l2, he, h1, h2⟩, h => by
  simp at h; subst h; subst he
  have hl := sem_len h1
  rw [List.take_zero, show szS [] = 0 from rfl, List.drop_zero, List.take_append_of_le_length (by omega), List.take_of_length_le (by omega)]
  exact h1
 | e :: ss, l, p + 1, d, ⟨l1, l2, he, h1, h2⟩, h => by
  subst he
  have hl := sem_len h1
  rw [List.take_succ_cons, szS_cons, ← hl, ← List.drop_drop, List.drop_left]
  exact semS_at h2 (by simpa using h)
theorem cells_map (k : IntKind) (n : Nat) (f : Nat → Int) : ((((List.range n).map f).map fun z => [Value.int k z])).flatten = cells k n f := by
 have : ∀ l : List Nat, (((l.map f).map fun z => [Value.int k z])).flatten = l.map fun i => Value.int k (f i) := by
  intro l
  induction l with
  | nil => rfl
  | cons a l ih => rw [List.map_cons, List.map_cons, List.flatten_cons, ih]; rfl
 exact this _
theorem rowsIk {k : IntKind} : ∀ l : List Int, Fa2 (rS X N w [.int k]) (l : List (RT [.int k])) (l.map fun z => [Value.int k z])
 | [] => trivial
 | a :: l => ⟨⟨_, rfl, rfl⟩, rowsIk l⟩
theorem exFz_ok {t : TypeId} {x : Operand} {e : Eff} {ps : List Prop} (h : exFz P L H t x = some (e, ps)) : EOk P n ⟨ds, .slice t x none none none, ty, pos, af, gu⟩ L (lkH H) e := by
 intro ξ g w hS hH hn
 unfold exFz at h
 split at h
 ·rename_i k o len m hx ha
  split at h
  ·rename_i ty' d hk
   split at h
   ·rename_i kk q f hd
    cases hb : Nat.beq m 1 && Nat.beq o 0 && Nat.beq q len && Nat.blt 0 len && Nat.ble len 140737488355328 with
    | false => rw [hb] at h; cases h
    | true =>
     rw [hb] at h
     simp only [Bool.and_eq_true] at hb
     obtain ⟨⟨⟨⟨b1, b2⟩, b3⟩, b4⟩, b5⟩ := hb
     obtain rfl := Nat.eq_of_beq_eq_true b1
     obtain rfl := Nat.eq_of_beq_eq_true b2
     obtain rfl := Nat.eq_of_beq_eq_true b3
     have b5 := Nat.le_of_ble_eq_true b5
     rw [Nat.blt_eq] at b4
     cases h
     obtain ⟨te, u1, u2⟩ := aInf_of ha
     obtain ⟨v, hv, b', k1, k2⟩ := opD_ev hH hx
     cases (List.cons.inj k2).1
     have hkk : resH ([] ++ keys [(k, (none : Option O))]) (lkH H) k = some (.ob ty' d) := by simp [resH, keys, memN, hk]
     obtain ⟨b, c, e1, e2, e3, e4, e5⟩ := hS.os k _ hkk
     rw [k1] at e1
     cases e1
     have hbF : b' ∈ g.F k := by rw [e2]; simp
     have hcc := sem_segs e4
     rw [hd] at hcc
     have hce : c.toList = cells kk q f := semS_one.1 hcc
     have hd2 := d_cutA (P := P) (n := n) (w := w) (ds := ds) (ty := ty) (pos := pos) (af := af) (gu := gu) (lo := none) (hi := none) (mx := none) u1 u2 hv (fun a hF => ⟨bndD_ev (x := none) (i := none) hH rfl a n hF, bndD_ev (x := none) (i := none) hH rfl a n hF, bndD_ev (x := none) (i := none) hH rfl a n hF⟩) ⟨trivial, trivial, trivial, by simp, by simp [bl], by simp [bl], by simp [bl]⟩
     rw [if_neg (show ¬ bl (none : Option Int) q = bl none 0 from by show ¬ q = 0; omega)] at hd2
     have hd2 : Det P ⟨ds, .slice t x none none none, ty, pos, af, gu⟩ n (exL L ξ) w (vS b' 0 q q) w := by simpa [bl] using hd2
     refine hd2.mono fun v' w' ⟨f1, f2⟩ => ?_
     subst f1; subst f2
     have hfx : ∀ x, Eff.foot ⟨[], [(k, none)], [], .ls true [.int kk] ((List.range q).map f : List Int)⟩ (lkH H) g x ↔ x ∈ g.F k := fun x => ⟨fun ⟨j, h1, q, h2, h3⟩ => by
      simp only [keys, List.map_cons, List.map_nil, List.mem_singleton] at h1
      subst h1; exact h3, fun hx => ⟨k, by simp [keys], _, hk, hx⟩⟩
     let g' : G := ⟨g.N, g.F, fun x => g.X x ∧ x ∉ g.F k⟩
     have hgo : Go (Eff.foot ⟨[], [(k, none)], [], .ls true [.int kk] ((List.range q).map f : List Int)⟩ (lkH H) g) g w' g' w' := ⟨Chp.refl _ _, fun x hx => hS.own k _ hkk x ((hfx x).1 hx), fun x hx => .inl hx.1, fun x h1 h2 => ⟨h1, fun h3 => h2 ((hfx x).2 h3)⟩, fun _ _ h => h, fun _ _ _ => rfl⟩
     have hno : ∀ j u, lkH (Eff.outs ⟨[], [(k, (none : Option O))], [], .ls true [.int kk] ((List.range q).map f : List Int)⟩) j ≠ some u := fun j u h => by
      have h := lkH_some.1 h
      simp only [Eff.outs, List.map_nil, List.append_nil, lkO] at h
      by_cases e : k = j
      ·subst e; simp at h
      ·rw [beqf e] at h; cases h
     have hlt : b' < w'.heap.size := OS.lt (hS.os k _ hkk) b' hbF
     have hll : ((List.range q).map f : List Int).length = q := by simp
     refine ⟨g', hgo, ⟨_, ((List.range q).map f).map fun z => [Value.int kk z], rfl, ⟨?_, ?_, .inr ⟨b', 0, q, ?_, ?_, ?_, fun hx => hx.2 hbF, hlt, ?_⟩⟩, rowsIk _⟩, ⟨fun x hx => hS.wf x hx.1, fun j u h => (hno j u h).elim, fun j u h => (hno j u h).elim, fun j u _ _ h => (hno j u h).elim⟩, fun j u h => (hno j u h).elim, fun j u h => .inl h⟩
     ·show ((List.range q).map f : List Int).length ≤ maxLen
      rw [hll]; simp only [maxLen]; omega
     ·rw [cells_map, cells_len]
      show q = ((List.range q).map f : List Int).length * 1
      rw [hll]; omega
     ·show _ = vS b' 0 ((List.range q).map f : List Int).length q
      rw [hll]
     ·show ((List.range q).map f : List Int).length ≤ q
      rw [hll]; exact Nat.le_refl _
     ·simp only [maxLen]; omega
     ·rw [cells_map, ← hce]; exact At.of_blk e3
   ·cases h
  ·cases h
 ·cases h
theorem run_arrayAt' (arr e : TypeId) (n : Nat) (a : Option Addr) (len cap : Nat) (h : P.underlying arr = some (.array n e)) (hn : n ≤ len) : (Instr.arrayAt arr (.slice a len cap)).run P w = .ok (.pointer a) w := by
 simp [Instr.arrayAt, run_underlying' h, Nat.not_lt.2 hn]
theorem exSap_ok {t : TypeId} {x : Operand} {e : Eff} {ps : List Prop} (h : exSap P L H t x = some (e, ps)) (hp : AllP ps) : EOk P n ⟨ds, .sliceToArrayPointer t x, ty, pos, af, gu⟩ L (lkH H) e := by
 unfold exSap at h
 split at h
 ·rename_i k len m hx ha
  split at h
  ·rename_i te' e' xs hk
   cases hb : Nat.beq e'.length 1 with
   | false => rw [hb] at h; cases h
   | true =>
    rw [hb] at h
    cases h
    obtain ⟨te, u1, u2⟩ := aInf_of ha
    refine EOk.rd fun ξ g w hS hH => ?_
    obtain ⟨v, hv, v', h1, h2, _⟩ := opD_ev hH hx
    cases (List.cons.inj h2).1
    obtain ⟨v2, ls, k1, k2, k3, _⟩ := hS.os k _ (by simp only [resH, memN_iff.2 (List.mem_singleton.2 rfl)]; exact hk)
    rw [h1] at k1
    cases k1
    have p1 := hp.1
    have p2 := hp.2.1
    rcases k3.at with ⟨rfl, h4, _⟩ | ⟨b, cap, rfl, _, _⟩
    ·omega
    ·exact ⟨_, ⟨p2, b, cap, h1, rfl⟩, Det.of_run fun a hF => by simp [execOp, hF.eval hv, run_arrayAt' _ _ _ _ _ _ u1 p1]⟩
  ·cases h
 ·rename_i k o q len m hx ha
  cases h
  obtain ⟨te, u1, u2⟩ := aInf_of ha
  refine EOk.rd fun ξ g w hS hH => ?_
  obtain ⟨v, hv, b, c, h1, h2, h3, h4⟩ := opD_ev hH hx
  cases (List.cons.inj h2).1
  exact ⟨_, ⟨b, h1, rfl⟩, Det.of_run fun a hF => by simp [execOp, hF.eval hv, run_arrayAt' _ _ _ _ _ _ u1 hp.1]⟩
 ·cases h
theorem exLdA_ok {t : TypeId} {x : Operand} {p v0 : Nat} {e : Eff} {ps : List Prop} (h : exLdA P L H t x p v0 = some (e, ps)) (hp : AllP ps) : EOk P n ⟨ds, .load t x, ty, pos, af, gu⟩ L (lkH H) e := by
 unfold exLdA at h
 split at h
 ·rename_i k o m hx ht
  split at h
  ·rename_i ty' d hk
   split at h
   ·rename_i kk q f hg
    cases h
    obtain ⟨td, t1, t2, t3⟩ := tInf_of ht
    refine EOk.rd fun ξ g w hS hH => ?_
    obtain ⟨v, hv, b', e1, e2⟩ := opD_ev hH hx
    cases (List.cons.inj e2).1
    obtain ⟨b, c, k1, k2, k3, k4, k5⟩ := hS.os k _ (by simp only [resH, memN_iff.2 (List.mem_singleton.2 rfl)]; exact hk)
    rw [k1] at e1
    cases e1
    have k6 : (c.toList.drop (szS ((segs d).take p))).take q = cells kk q f := semS_at (sem_segs k4) hg
    have p1 := hp.1
    have p2 := hp.2.1
    refine ⟨_, rfl, d_loadC t1 t2 t3 hv (vs := cells kk m fun j => f (v0 + j)) (fun j u hu => ?_) cells_len⟩
    have hj : j < m := by
     rcases Nat.lt_or_ge j m with h' | h'
     ·exact h'
     ·rw [List.getElem?_eq_none (by rw [cells_len]; exact h')] at hu; cases hu
    rw [cells_get hj] at hu
    cases hu
    have h7 : (cells kk q f)[v0 + j]? = some (.int kk (f (v0 + j))) := cells_get (by omega)
    rw [← k6, List.getElem?_take, if_pos (by omega), List.getElem?_drop] at h7
    rw [cell_blk k3, ← Array.getElem?_toList, p1, Nat.add_assoc]
    exact h7
   ·cases h
  ·cases h
 ·rename_i k mm nn i o m hx ht
  split at h
  ·rename_i ty' kk xs hk
   cases hb : Nat.beq mm 1 && Nat.beq o 0 with
   | false => rw [hb] at h; cases h
   | true =>
    rw [hb, ] at h
    rw [Bool.and_eq_true] at hb
    obtain rfl := Nat.eq_of_beq_eq_true hb.1
    obtain rfl := Nat.eq_of_beq_eq_true hb.2
    cases h
    obtain ⟨td, t1, t2, t3⟩ := tInf_of ht
    refine EOk.rd fun ξ g w hS hH => ?_
    obtain ⟨v, hv, hi, b, c, h1, h2⟩ := opD_ev hH hx
    cases (List.cons.inj h2).1
    obtain ⟨v2, ls, k1, k2, k3, k4, k5, k6⟩ := hS.os k _ (by simp only [resH, memN_iff.2 (List.mem_singleton.2 rfl)]; exact hk)
    rw [h1] at k1
    cases k1
    obtain ⟨vs, rfl, h4⟩ := rows1' k5
    have hvs : vs = List.map (Value.int kk) (xs : List Int) := ints_of h4
    have p1 := hp.1
    rcases k3.at with ⟨hc, _⟩ | ⟨b', cap, hc, _, hat⟩
    ·cases hc
    ·cases hc
     refine ⟨_, rfl, d_loadC t1 t2 t3 hv (vs := cells kk m fun j => List.getD (α := Int) xs (i + j) 0) (fun j u hu => ?_) cells_len⟩
     have hj : j < m := by
      rcases Nat.lt_or_ge j m with h' | h'
      ·exact h'
      ·rw [List.getElem?_eq_none (by rw [cells_len]; exact h')] at hu; cases hu
     rw [cells_get hj] at hu
     cases hu
     have hlt : i + j < List.length (α := Int) xs := Nat.lt_of_lt_of_le (by omega) p1
     have key : ∀ (l : List Int) (q : Nat), q < l.length → ((l.map (Value.int kk)).map fun v => [v]).flatten[q]? = some (.int kk (l.getD q 0)) := by
      intro l q hq
      have e : ∀ l : List Int, ((l.map (Value.int kk)).map fun v => [v]).flatten = l.map (Value.int kk) := by
       intro l
       induction l with
       | nil => rfl
       | cons a l ih => rw [List.map_cons, List.map_cons, List.flatten_cons, ih]; rfl
      rw [e, List.getElem?_map, List.getElem?_eq_getElem hq]
      simp [List.getD_eq_getElem?_getD, List.getElem?_eq_getElem hq]
     have := hat (i + j) (.int kk (List.getD (α := Int) xs (i + j) 0)) (by rw [hvs]; exact key xs (i + j) hlt)
     rw [Nat.zero_add] at this
     rw [Nat.mul_one, Nat.add_zero]
     exact this
  ·cases h
 ·cases h
theorem exTa_ok {x : Operand} {xT T : TypeId} {ok : Bool} {e : Eff} {ps : List Prop} {F : Nat → Option O} (h : exTa P L x T ok = some (e, ps)) : EOk P n ⟨ds, .typeAssert x xT T ok, ty, pos, af, gu⟩ L F e := by
 unfold exTa at h
 split at h
 ·rename_i t v k hx hu
  cases hb : Nat.beq t T && v.oneCell' && ok with
  | false => rw [hb] at h; cases h
  | true =>
   rw [hb] at h
   simp only [Bool.and_eq_true] at hb
   obtain ⟨⟨b1, b2⟩, rfl⟩ := hb
   obtain rfl := Nat.eq_of_beq_eq_true b1
   cases h
   refine EOk.rd fun ξ g w hS hH => ⟨.tuple #[v, .bool true], ⟨[v, .bool true], ⟨[v], [.bool true], rfl, rfl, ⟨[.bool true], [], rfl, rfl, rfl⟩⟩, rfl⟩, ?_⟩
   have hv := opD_v hH hx
   exact Det.of_run fun a hF => by simp [execOp, hF.eval hv, Instr.typeAssert, run_underlying' hu]
 ·cases h
theorem exNn_ok {t t' : TypeId} {x : Operand} {e : Eff} {ps : List Prop} {F : Nat → Option O} (h : exNn P L t x = some (e, ps)) : EOk P n ⟨ds, .binOp .neq t x (.const .nilIface) t', ty, pos, af, gu⟩ L F e := by
 unfold exNn at h
 split at h
 ·rename_i k hx hu
  cases h
  refine EOk.rd fun ξ g w hS hH => ⟨_, rfl, ?_⟩
  have hvx := opD_v hH hx
  have key : ∀ m, (Op.equalIn (m + 1) t Value.nilIface Value.nilIface).run P w = .ok true w := fun m => by simp [Op.equalIn, run_underlying' hu]
  have he : (Op.equalIn Op.maxDepth t Value.nilIface Value.nilIface).run P w = .ok true w := key 9999
  refine Det.of_run fun a hF => ?_
  have hc : a.eval (.const .nilIface) = Value.nilIface := rfl
  simp [execOp, hF.eval hvx, hc, binOp, eqGuard, Op.equal, he]
 ·cases h
theorem exMk_keys {K : Kt} {t : TypeId} {x y : Operand} {nb : Nat} {e : Eff} {ps : List Prop} (h : exMk P K L t x y nb = some (e, ps)) : ∃ te q xs, e = ⟨[], [], [(nb, .sl te q xs)], .sk nb⟩ := by
 unfold exMk at h
 split at h
 ·split at h
  ·split at h
   ·rename_i inf a _ _ _ z _
    cases hb : Nat.beq inf.size 1 && z.oneCell' with
    | false => rw [hb] at h; cases h
    | true =>
     rw [hb] at h
     obtain ⟨q, _, h2⟩ := Option.map_eq_some_iff.1 h
     simp only [Prod.mk.injEq] at h2
     exact ⟨_, _, _, h2.1.symm⟩
   ·cases h
  ·cases h
 ·cases h
theorem exMf_ok {K : Kt} {t : TypeId} {x y : Operand} {e : Eff} {ps : List Prop} (h : exMf P K t x y = some (e, ps)) (hp : AllP ps) : EOk P n ⟨ds, .makeSlice t x y, ty, pos, af, gu⟩ L (lkH H) e := by
 unfold exMf at h
 split at h
 ·rename_i j te k xs rr qs he
  cases h
  obtain ⟨te', q', xs', e1⟩ := exMk_keys he
  intro ξ g w hS hH hn
  have hS0 : HS (resH ([] ++ keys ([] : Hp)) (lkH H)) (⟨fun _ => none, g.F, g.X⟩ : G) w := ⟨hS.wf, fun k o hk => by simp [resH, keys, memN] at hk, fun k o hk => by simp [resH, keys, memN] at hk, fun k o k' o' hk => by simp [resH, keys, memN] at hk⟩
  have h1 := exMk_ok' (n := n) (ds := ds) (ty := ty) (pos := pos) (af := af) (gu := gu) (H := lkH H) he hp ξ ⟨fun _ => none, g.F, g.X⟩ w (by simp only [Eff.mk.injEq] at e1; simpa [keys] using hS0) (fun _ _ h => by cases h) (fun _ _ => rfl)
  intro a KK Q hF hk
  refine h1 a KK Q ⟨hF.size, hF.defers, fun _ _ h => by cases h⟩ fun v w' ⟨g', hpo⟩ => hk v w' ?_
  cases e1
  obtain ⟨u, ls, n1, n2, n3, n4, n5, n6⟩ := hpo.hs.os 0 (.sl te [.int k] xs) rfl
  have hr : v = u := by
   obtain ⟨u', h1, h2, _⟩ := hpo.r
   rw [n1] at h1
   cases h1
   exact (List.cons.inj h2).1
  subst hr
  have hno : ∀ j u, lkH (Eff.outs ⟨[], [], [], .ls false [.int k] xs⟩) j ≠ some u := fun j u h => by simp [Eff.outs, lkH, lkO] at h
  have hft : ∀ x, ¬ Eff.foot ⟨[], [], [], .ls false [.int k] xs⟩ (lkH H) g x := fun x ⟨k, hk, _⟩ => by simp [keys] at hk
  have hft2 : ∀ x, ¬ Eff.foot ⟨[], [], [(0, .sl te [.int k] xs)], .sk 0⟩ (lkH H) ⟨fun _ => none, g.F, g.X⟩ x := fun x ⟨k, hk, _⟩ => by simp [keys] at hk
  refine ⟨g, ⟨⟨hpo.go.ch.os, hpo.go.ch.tape, hpo.go.ch.output, hpo.go.ch.size, fun b hb _ => hpo.go.ch.blk b hb (hft2 b)⟩, fun x hx => (hft x hx).elim, fun x hx => .inl hx, fun x hx _ => hx, fun _ _ h => h, fun _ _ _ => rfl⟩, ?_, ⟨fun x hx => Nat.lt_of_lt_of_le (hS.wf x hx) hpo.go.ch.size, fun j u h => (hno j u h).elim, fun j u h => (hno j u h).elim, fun j u j' u' h => (hno j u h).elim⟩, fun j u h => (hno j u h).elim, fun k v h => .inl h⟩
  refine ⟨v, ls, rfl, ⟨n4, by rw [flat_len n5.row, n5.len], ?_⟩, n5.mono (fun _ _ h => h)⟩
  rcases n3.2 with ⟨e1, h0⟩ | ⟨b, cap, cur, e1, k2, k3, k4, k5, k6, k7⟩
  ·exact .inl ⟨rfl, h0, e1⟩
  ·refine .inr ⟨b, 0, cap, e1, k4, k5, fun hx => ?_, OS.lt (hpo.hs.os 0 (.sl te [.int k] xs) rfl) b (by rw [n2, e1]; simp [oblk]), ?_⟩
   ·have h4 := hpo.fp 0 (.sl te [.int k] xs) rfl b (by rw [n2, e1]; simp [oblk])
    have h5 := hS.wf b hx
    rcases h4 with h4 | h4
    ·exact hft2 b h4
    ·omega
   ·rcases n3.at with ⟨e2, _⟩ | ⟨b', cap', e2, _, h3⟩
    ·rw [e1] at e2; cases e2
    ·rw [e1] at e2; cases e2; exact h3
 ·cases h
theorem exA2_ok {E : Env} {C : List (Nat × Rx)} {C2 : List (Nat × R2)} (hZ : ZOk E.P E.Z) (hC : CsOk E.P C) : ExOk E.P n (exA2 E C C2) := by
 intro i L H nb o e ps h hp
 unfold exA2 at h
 split at h
 ·exact exA_ok hZ hC i L H nb o e ps h hp
 ·obtain ⟨ds, op, ty, pos, af, gu⟩ := o
  simp only at h
  split at h
  ·exact exFz_ok h
  ·exact exSap_ok h hp
  ·cases h
 ·obtain ⟨ds, op, ty, pos, af, gu⟩ := o
  simp only at h
  split at h
  ·exact exLdA_ok h hp
  ·cases h
 ·obtain ⟨ds, op, ty, pos, af, gu⟩ := o
  simp only at h
  split at h
  ·exact exTa_ok h
  ·cases h
 ·obtain ⟨ds, op, ty, pos, af, gu⟩ := o
  simp only at h
  split at h
  ·exact exNn_ok h
  ·cases h
 ·obtain ⟨ds, op, ty, pos, af, gu⟩ := o
  simp only at h
  split at h
  ·exact exMf_ok h hp
  ·cases h
end
end Go.Sx
namespace Go.Sx
open Go.Mi Go.RowKit
variable [Dfr]
def wkC : D → List D → D
 | .cons a b, e :: es => .cons (weak a e) (wkC b es)
 | d, _ => d
theorem weak_okF {X : Nat → Prop} {N : Nat → Option Value} {w : World} {d e : D} {l : List Value} (h : sem X N w d false l) : sem X N w (weak d e) false l := by
 unfold weak
 split
 ·obtain ⟨u, ls, h1, h2, h3⟩ := h; exact ⟨u, ls, h1, h2.gen, h3⟩
 ·have : l = [vN] := h
  subst this
  exact ⟨_, [], rfl, Lsl.nil, trivial⟩
 ·have : l = [vN] := h
  subst this
  exact ⟨_, rfl, rfl⟩
 ·split
  ·rename_i e2 xs a o q hq
   obtain ⟨u, ls, h1, h2, h3⟩ := h
   subst h1
   exact ⟨u, rfl, (toF_ok (X := X) (N := N) (w := w) (m := false) (a := .os _) (d := .ls true _ _) ⟨u, ls, rfl, h2, h3⟩ hq).1⟩
  ·exact h
 ·exact h
theorem wkC_ok {X : Nat → Prop} {N : Nat → Option Value} {w : World} : ∀ {d : D} {es : List D} {l : List Value}, sem X N w d false l → sem X N w (wkC d es) false l := by
 intro d
 induction d with
 | cons a b _ ih =>
  intro es l h
  cases es with
  | nil => exact h
  | cons e es =>
   obtain ⟨l1, l2, rfl, h1, h2⟩ := h
   exact ⟨l1, l2, rfl, weak_okF h1, ih h2⟩
 | _ => intro es l h; cases es <;> exact h
theorem St.wko {n : Nat} {L : DL} {H : Hp} {S0 : Nat → Prop} {g0 g : G} {w0 w : World} {nb : Nat} {a : Act} (hS : St n S0 g0 w0 L H nb a g w) (k : Nat) (es : List D) {ty : TypeId} {d : D} (hk : lkH H k = some (.ob ty d)) {H' : Hp} (hH : H' = (k, some (.ob ty (wkC d es))) :: H) : St n S0 g0 w0 L H' nb a g w := by
 subst hH
 have hl : ∀ j o, lkH ((k, some (.ob ty (wkC d es))) :: H) j = some o → (j = k ∧ o = .ob ty (wkC d es)) ∨ (j ≠ k ∧ lkH H j = some o) := fun j o h => by
  have h := lkH_some.1 h
  simp only [lkO] at h
  by_cases e : k = j
  ·subst e; simp at h; exact .inl ⟨rfl, h.symm⟩
  ·rw [beqf e] at h; exact .inr ⟨fun x => e x.symm, lkH_some.2 h⟩
 have old : ∀ j o, lkH ((k, some (.ob ty (wkC d es))) :: H) j = some o → ∃ u, lkH H j = some u := fun j o h => by
  rcases hl j o h with ⟨rfl, _⟩ | ⟨_, h⟩
  ·exact ⟨_, hk⟩
  ·exact ⟨_, h⟩
 refine ⟨hS.size, hS.defers, hS.fr, ⟨hS.hs.wf, fun j o h => ?_, fun j o h b hb => ?_, fun j o j' o' h h' hj => ?_⟩, hS.go, hS.wf0, fun j o h b hb => ?_, hS.nm⟩
 ·rcases hl j o h with ⟨rfl, rfl⟩ | ⟨_, h⟩
  ·obtain ⟨b, c, h1, h2, h3, h4, h5⟩ := hS.hs.os j _ hk
   exact ⟨b, c, h1, h2, h3, wkC_ok h4, h5⟩
  ·exact hS.hs.os j o h
 ·obtain ⟨u, hu⟩ := old j o h
  exact hS.hs.own j u hu b hb
 ·obtain ⟨u, hu⟩ := old j o h
  obtain ⟨u', hu'⟩ := old j' o' h'
  exact hS.hs.dis j u j' u' hu hu' hj
 ·obtain ⟨u, hu⟩ := old j o h
  exact hS.fp j u hu b hb
end Go.Sx
namespace Go.Sx
open Go.Mi Go.RowKit
variable [Dfr]
def nofz : D → Bool
 | .v _ => true
 | .ar _ _ _ => true
 | .nil => true
 | .cons a b => nofz a && nofz b
 | .ag d => nofz d
 | .tu d => nofz d
 | .cp _ _ => true
 | .sk _ => true
 | _ => false
def fkI : Fk → Bool
 | .int _ => true
 | .bool => true
 | .str => true
 | _ => false
def nofzO : O → Bool
 | .ob _ d => nofz d
 | .sl _ e _ => e.all fkI
section
variable {P : Program} {X X' : Nat → Prop} {N N' : Nat → Option Value} {w w' : World} {g g' : G}
theorem nofz_ok : ∀ {d : D} {m : Bool} {l : List Value}, nofz d = true → (∀ k ∈ d.nm, N' k = N k) → sem X N w d m l → sem X' N' w' d m l := by
 intro d
 induction d with
 | v x => intro m l _ _ h; exact h
 | ar k n f => intro m l _ _ h; exact h
 | nil => intro m l _ _ h; exact h
 | cons a b iha ihb =>
  intro m l hz hn h
  simp only [nofz, Bool.and_eq_true] at hz
  obtain ⟨l1, l2, rfl, h1, h2⟩ := h
  exact ⟨l1, l2, rfl, iha hz.1 (fun k hk => hn k (by simp only [D.nm, List.mem_append]; exact .inl hk)) h1, ihb hz.2 (fun k hk => hn k (by simp only [D.nm, List.mem_append]; exact .inr hk)) h2⟩
 | ag d ih => intro m l hz hn h; obtain ⟨l', h1, h2, h3⟩ := h; exact ⟨l', ih hz hn h1, h2, h3⟩
 | tu d ih => intro m l hz hn h; obtain ⟨l', h1, h2⟩ := h; exact ⟨l', ih hz hn h1, h2⟩
 | cp k o => intro m l _ hn h; obtain ⟨b, h1, h2⟩ := h; exact ⟨b, (hn k (by simp [D.nm])).trans h1, h2⟩
 | sk k => intro m l _ hn h; obtain ⟨v, h1, h2⟩ := h; exact ⟨v, (hn k (by simp [D.nm])).trans h1, h2⟩
 | _ => intro m l hz; cases hz
theorem fkI_ok {a : Fk} {x : a.T} {v : Value} (h : fkI a = true) (k : fS X N w a x v) : fS X' N' w' a x v := by
 cases a <;> first | exact k | cases h
theorem rsI_ok : ∀ {e : List Fk} {x : RT e} {l : List Value}, e.all fkI = true → rS X N w e x l → rS X' N' w' e x l
 | [], x, l, _, h => h
 | [a], x, l, hz, ⟨v, h1, h2⟩ => ⟨v, h1, fkI_ok (by simpa using hz) h2⟩
 | a :: b :: s, x, l, hz, ⟨v, l', h1, h2, h3⟩ => by
  rw [List.all_cons, Bool.and_eq_true] at hz
  exact ⟨v, l', h1, fkI_ok hz.1 h2, rsI_ok (e := b :: s) hz.2 h3⟩
theorem nofzO_ok {k : Nat} {o : O} (hz : nofzO o = true) (hn : ∀ i ∈ o.nm, g'.N i = g.N i) (hk : g'.N k = g.N k) (hf : g'.F k = g.F k) (h : OS g w k o) : OS g' w k o := by
 cases o with
 | ob ty d =>
  obtain ⟨b, c, h1, h2, h3, h4, h5⟩ := h
  exact ⟨b, c, hk.trans h1, hf.trans h2, h3, nofz_ok hz hn h4, h5⟩
 | sl ty e xs =>
  obtain ⟨v, ls, h1, h2, h3, h4, h5, h6⟩ := h
  exact ⟨v, ls, hk.trans h1, hf.trans h2, h3, h4, h5.mono fun _ _ => rsI_ok hz, h6⟩
theorem sem_same {d : D} {m : Bool} {l : List Value} (hp : d.plain = true) (hn : ∀ k ∈ d.nm, N' k = N k) (hx : ∀ x, X' x → X x) (h : sem X N w d m l) : sem X' N' w d m l := by
 have h1 := (sem_ren (X := X) (N := N) (N' := N) (w := w) (r := id) d m l hp fun _ _ => rfl).2 h
 have h2 := (sem_ren (X := X) (N := N) (N' := N') (w := w) (r := id) d m l hp hn).1 h1
 exact sem_mv (S := fun _ => False) ⟨Chp.refl _ _, fun _ h => h.elim, fun x h => .inl (hx x h), fun _ _ h => h⟩ d m l h2
theorem OS_same {k : Nat} {o : O} (hp : o.plain = true) (hn : ∀ i ∈ o.nm, g'.N i = g.N i) (hk : g'.N k = g.N k) (hf : g'.F k = g.F k) (hx : ∀ x, g'.X x → g.X x) (h : OS g w k o) : OS g' w k o := by
 have h1 : OS (⟨g'.N, g'.F, g.X⟩ : G) w k o := by
  have h0 := (OS_ren (g := g) (g' := g) (r := id) hp (fun _ _ => rfl) rfl rfl rfl).2 h
  exact (OS_ren (g := g) (g' := (⟨g'.N, g'.F, g.X⟩ : G)) (r := id) hp hn hk hf rfl).1 h0
 have gs : Goes g.X g'.N w (fun _ => False) g'.X g'.N w := ⟨Chp.refl _ _, fun _ h => h.elim, fun x h => .inl (hx x h), fun _ _ h => h⟩
 cases o with
 | ob ty d =>
  obtain ⟨b, c, h1, h2, h3, h4, h5⟩ := h1
  exact ⟨b, c, h1, h2, h3, sem_mv gs _ _ _ h4, h5⟩
 | sl ty e xs =>
  obtain ⟨v, ls, h1, h2, h3, h4, h5, h6⟩ := h1
  exact ⟨v, ls, h1, h2, h3, h4, h5.mono (rS_mv gs _), h6⟩
theorem chain_sk {j : Nat} {a2 : List D} : ∀ {a1 : List D} {vs : List Value}, sem X N w (chain (a1 ++ .sk j :: a2)) true vs → ∃ v1 v v2, vs = v1 ++ v :: v2 ∧ sem X N w (chain a1) true v1 ∧ N j = some v ∧ sem X N w (chain a2) true v2
 | [], vs, ⟨l1, l2, e, ⟨v, h1, h2, _⟩, h3⟩ => ⟨[], v, l2, by rw [e, h2]; rfl, rfl, h1, h3⟩
 | d :: a1, vs, ⟨l1, l2, e, h1, h2⟩ => by
  obtain ⟨v1, v, v2, e2, h3, h4, h5⟩ := chain_sk h2
  exact ⟨l1 ++ v1, v, v2, by rw [e, e2, List.append_assoc], ⟨l1, v1, rfl, h1, h3⟩, h4, h5⟩
def lendChk (a1 a2 : List D) (H0 H1 : Hc) (res : D) (j : Nat) : Bool :=
 (a1.all (allNm (keys H0))) && (a2.all (allNm (keys H0))) && (H0.all fun p => allNmO (keys H0) p.2) && !(memN j (keys H0)) && !(memN j (keys H1)) && nofz res && allNm (keys H1) res && (H1.all fun p => nofzO p.2 && allNmO (keys H1) p.2)
theorem lkC_mem' : ∀ {H : Hc} {k : Nat} {o : O}, lkC H k = some o → (k, o) ∈ H
 | (s, u) :: r, k, o, h => by
  simp only [lkC] at h
  by_cases e : s = k
  ·subst e; simp at h; subst h; exact List.mem_cons_self ..
  ·rw [beqf e] at h; exact List.mem_cons_of_mem _ (lkC_mem' h)
theorem ConOk.lend {f : FuncId} {a1 a2 : List D} {nn : Bool} {kk : IntKind} {xs : List Int} {H0 H1 : Hc} {res : D} (j te : Nat) (h : ConOk P f ⟨a1 ++ .ls nn [.int kk] xs :: a2, H0, res, H1⟩) (hnn : nn = true → 0 < xs.length) (hk : lendChk a1 a2 H0 H1 res j = true) :
  ConOk P f ⟨a1 ++ .sk j :: a2, (j, .sl te [.int kk] xs) :: H0, res, (j, .sl te [.int kk] xs) :: H1⟩ := by
 refine ⟨h.1, fun vs g w hS hN hv => ?_⟩
 simp only [lendChk, Bool.and_eq_true, List.all_eq_true, Bool.not_eq_true'] at hk
 obtain ⟨⟨⟨⟨⟨⟨⟨c1, c2⟩, c3⟩, c4⟩, c5⟩, c6⟩, c7⟩, c8⟩ := hk
 have nj : ∀ {H : Hc}, memN j (keys H) = false → ∀ k o, lkC H k = some o → k ≠ j := fun {H} hm k o hk e => by
  subst e
  have : k ∈ keys H := List.mem_map.2 ⟨_, lkC_mem' hk, rfl⟩
  rw [memN_iff.2 this] at hm; cases hm
 have nmj : ∀ {H : Hc} {ks : List Nat}, memN j (keys H) = false → (∀ k ∈ ks, memN k (keys H) = true) → ∀ k ∈ ks, k ≠ j := fun hm hks k hk e => by
  subst e; rw [hks k hk] at hm; cases hm
 have lk1 : ∀ (H : Hc) k o, k ≠ j → (lkC ((j, .sl te [.int kk] xs) :: H) k = some o ↔ lkC H k = some o) := fun H k o hne => by
  simp only [lkC]
  rw [beqf (fun e => hne e.symm)]; rfl
 have lkj : ∀ (H : Hc), lkC ((j, (.sl te [.int kk] xs : O)) :: H) j = some (.sl te [.int kk] xs) := fun H => by simp [lkC]
 obtain ⟨v1, v, v2, rfl, s1, hNj, s2⟩ := chain_sk hv
 have hOj := hS.os j _ (lkj H0)
 obtain ⟨v', ls, n1, n2, n3, n4, n5, n6⟩ := hOj
 rw [hNj] at n1
 cases n1
 have hlt : ∀ b ∈ g.F j, b < w.heap.size := OS.lt (hS.os j _ (lkj H0))
 let gf : G := ⟨fun k => if k = j then none else g.N k, g.F, fun x => g.X x ∧ x ∉ g.F j⟩
 have fN : ∀ k, k ≠ j → gf.N k = g.N k := fun k hk => if_neg hk
 have ft1 : ∀ x, Con.foot ⟨a1 ++ .ls nn [.int kk] xs :: a2, H0, res, H1⟩ gf x → ∃ k o, k ≠ j ∧ lkC H0 k = some o ∧ x ∈ g.F k := fun x ⟨k, o, hk, hx⟩ => ⟨k, o, nj c4 k o hk, hk, hx⟩
 have ft : ∀ x, Con.foot ⟨a1 ++ .ls nn [.int kk] xs :: a2, H0, res, H1⟩ gf x → Con.foot ⟨a1 ++ .sk j :: a2, (j, .sl te [.int kk] xs) :: H0, res, (j, .sl te [.int kk] xs) :: H1⟩ g x := fun x hx => by
  obtain ⟨k, o, h1, h2, h3⟩ := ft1 x hx
  exact ⟨k, o, (lk1 H0 k o h1).2 h2, h3⟩
 have ftj : ∀ x, x ∈ g.F j → Con.foot ⟨a1 ++ .sk j :: a2, (j, .sl te [.int kk] xs) :: H0, res, (j, .sl te [.int kk] xs) :: H1⟩ g x := fun x hx => ⟨j, _, lkj H0, hx⟩
 have ftd : ∀ x, Con.foot ⟨a1 ++ .ls nn [.int kk] xs :: a2, H0, res, H1⟩ gf x → x ∉ g.F j := fun x hx hj => by
  obtain ⟨k, o, h1, h2, h3⟩ := ft1 x hx
  exact hS.dis k o j _ ((lk1 H0 k o h1).2 h2) (lkj H0) h1 x h3 hj
 have hSf : HS (lkC H0) gf w := by
  refine ⟨fun x hx => hS.wf x hx.1, fun k o hk => ?_, fun k o hk b hb => ?_, fun k o k' o' hk hk' => ?_⟩
  ·have hne := nj c4 k o hk
   have hc := c3 (k, o) (lkC_mem' hk)
   simp only [allNmO, Bool.and_eq_true, List.all_eq_true] at hc
   exact OS_same hc.1 (fun i hi => fN i (nmj c4 hc.2 i hi)) (fN k hne) rfl (fun x hx => hx.1) (hS.os k o ((lk1 H0 k o hne).2 hk))
  ·have hne := nj c4 k o hk
   exact ⟨hS.own k o ((lk1 H0 k o hne).2 hk) b hb, fun hj => hS.dis k o j _ ((lk1 H0 k o hne).2 hk) (lkj H0) hne b hb hj⟩
  ·exact hS.dis k o k' o' ((lk1 H0 k o (nj c4 k o hk)).2 hk) ((lk1 H0 k' o' (nj c4 k' o' hk')).2 hk')
 have hNf : ∀ k u, gf.N k = some u → k ∈ keys H0 := fun k u hk => by
  by_cases e : k = j
  ·rw [e] at hk; simp [gf] at hk
  ·rw [fN k e] at hk
   have := hN k u hk
   simp only [keys, List.map_cons, List.mem_cons] at this
   exact this.resolve_left e
 have mvl : ∀ {ays : List D} {us : List Value}, (∀ d ∈ ays, allNm (keys H0) d = true) → sem g.X g.N w (chain ays) true us → sem gf.X gf.N w (chain ays) true us := by
  intro ays
  induction ays with
  | nil => intro us _ h; exact h
  | cons d ays ih =>
   rintro us hc ⟨l1, l2, e, k1, k2⟩
   have hd := hc d (List.mem_cons_self ..)
   simp only [allNm, Bool.and_eq_true, List.all_eq_true] at hd
   exact ⟨l1, l2, e, sem_same hd.1 (fun i hi => fN i (nmj c4 hd.2 i hi)) (fun x hx => hx.1) k1, ih (fun e he => hc e (List.mem_cons_of_mem _ he)) k2⟩
 have hls : sem gf.X gf.N w (.ls nn [.int kk] xs) true [v] := by
  refine ⟨v, ls, rfl, ⟨n4, by rw [flat_len n5.row, n5.len], ?_⟩, n5.mono fun _ _ => rsI_ok rfl⟩
  rcases n3.2 with ⟨e1, h0⟩ | ⟨b, cap, cur, e1, k2, k3, k4, k5, k6, k7⟩
  ·cases nn with
   | true => have h0 : xs.length = 0 := h0; have := hnn rfl; omega
   | false => exact .inl ⟨rfl, h0, e1⟩
  ·refine .inr ⟨b, 0, cap, e1, k4, k5, fun hx => hx.2 (by rw [n2, e1]; simp [oblk]), hlt b (by rw [n2, e1]; simp [oblk]), ?_⟩
   rcases n3.at with ⟨e2, _⟩ | ⟨b', cap', e2, _, h3⟩
   ·rw [e1] at e2; cases e2
   ·rw [e1] at e2; cases e2; exact h3
 have hv' : sem gf.X gf.N w (chain (a1 ++ .ls nn [.int kk] xs :: a2)) true (v1 ++ v :: v2) := chain_app (mvl c1 s1) ⟨[v], v2, rfl, hls, mvl c2 s2⟩
 refine (h.2 (v1 ++ v :: v2) gf w hSf hNf hv').mono fun e w' he => ?_
 obtain ⟨r, rfl, g', hp⟩ := he
 have fj : ∀ b ∈ g.F j, b < w.heap.size := hlt
 let gg : G := ⟨fun k => if k = j then g.N j else g'.N k, fun k => if k = j then g.F j else g'.F k, fun x => g'.X x ∨ x ∈ g.F j⟩
 have gN : ∀ k, k ≠ j → gg.N k = g'.N k := fun k hk => if_neg hk
 have gF : ∀ k, k ≠ j → gg.F k = g'.F k := fun k hk => if_neg hk
 have gNj : gg.N j = some v := (if_pos rfl).trans hNj
 have gFj : gg.F j = g.F j := if_pos rfl
 have chp : Chp (Con.foot ⟨a1 ++ .sk j :: a2, (j, .sl te [.int kk] xs) :: H0, res, (j, .sl te [.int kk] xs) :: H1⟩ g) w w' := ⟨hp.go.ch.os, hp.go.ch.tape, hp.go.ch.output, hp.go.ch.size, fun b hb hn => hp.go.ch.blk b hb fun hh => hn (ft b hh)⟩
 refine ⟨r, rfl, gg, ⟨⟨chp, fun x ⟨k, o, hk, hx⟩ => hS.own k o hk x hx, fun x hx => ?_, fun x hx hn => ?_, fun k u hk => ?_, fun k u hk => ?_⟩, ?_, ⟨fun x hx => ?_, fun k o hk => ?_, fun k o hk b hb => ?_, fun k o k' o' hk hk' hne b hb hb' => ?_⟩, fun k o hk b hb => ?_⟩⟩
 ·rcases hx with hx | hx
  ·exact (hp.go.x x hx).imp (fun h => h.1) id
  ·exact .inl (hS.own j _ (lkj H0) x hx)
 ·exact .inl (hp.go.k x ⟨hx, fun hj => hn (ftj x hj)⟩ fun hh => hn (ft x hh))
 ·by_cases e : k = j
  ·rw [e] at hk ⊢; rw [gNj, ← hNj]; exact hk
  ·rw [gN k e]; exact hp.go.n k u ((fN k e).trans hk)
 ·by_cases e : k = j
  ·rw [e, gFj]
  ·rw [gF k e]; exact hp.go.f k u ((fN k e).trans hk)
 ·simp only [allNm, Bool.and_eq_true, List.all_eq_true] at c7
  exact nofz_ok c6 (fun i hi => gN i (nmj c5 c7.2 i hi)) hp.r
 ·rcases hx with hx | hx
  ·exact hp.hs.wf x hx
  ·exact Nat.lt_of_lt_of_le (fj x hx) hp.go.ch.size
 ·by_cases e : k = j
  ·subst e
   rw [lkj] at hk
   cases hk
   exact ⟨v, ls, gNj, gFj.trans n2, Own.mvp n3 hp.go.ch fun b hb hh => ftd b hh (by rw [n2]; exact hb), n4, n5.mono fun _ _ => rsI_ok rfl, n6⟩
  ·have hk := (lk1 H1 k o e).1 hk
   have hc := c8 (k, o) (lkC_mem' hk)
   simp only [allNmO, Bool.and_eq_true, List.all_eq_true] at hc
   exact nofzO_ok hc.1 (fun i hi => gN i (nmj c5 hc.2.2 i hi)) (gN k e) (gF k e) (hp.hs.os k o hk)
 ·by_cases e : k = j
  ·subst e; rw [gFj] at hb; exact .inr hb
  ·rw [gF k e] at hb; exact .inl (hp.hs.own k o ((lk1 H1 k o e).1 hk) b hb)
 ·have key : ∀ k o b, k ≠ j → lkC ((j, (.sl te [.int kk] xs : O)) :: H1) k = some o → b ∈ gg.F k → b ∈ g.F j → False := fun k o b e hk hb hj => by
   rw [gF k e] at hb
   rcases hp.fp k o ((lk1 H1 k o e).1 hk) b hb with h1 | h1
   ·exact ftd b h1 hj
   ·have := fj b hj; omega
  by_cases e : k = j
  ·subst e; rw [gFj] at hb; exact key k' o' b (fun x => hne x.symm) hk' hb' hb
  ·by_cases e' : k' = j
   ·subst e'; rw [gFj] at hb'; exact key k o b e hk hb hb'
   ·rw [gF k e] at hb; rw [gF k' e'] at hb'
    exact hp.hs.dis k o k' o' ((lk1 H1 k o e).1 hk) ((lk1 H1 k' o' e').1 hk') hne b hb hb'
 ·by_cases e : k = j
  ·subst e; rw [gFj] at hb; exact .inl (ftj b hb)
  ·rw [gF k e] at hb; exact (hp.fp k o ((lk1 H1 k o e).1 hk) b hb).imp (ft b) id
end
end Go.Sx
namespace Go.Sx
open Go.Mi Go.RowKit
variable [Dfr]
section
variable {P : Program}
theorem lkC_app {A B : Hc} {k : Nat} {o : O} (h : lkC A k = some o) : lkC (A ++ B) k = some o := by
 induction A with
 | nil => cases h
 | cons p A ih =>
  obtain ⟨s, u⟩ := p
  simp only [List.cons_append, lkC] at h ⊢
  by_cases e : s = k
  ·subst e; simpa using h
  ·rw [beqf e] at h ⊢; exact ih h
theorem lkC_last {A : Hc} {k : Nat} {o : O} (hk : memN k (keys A) = false) : lkC (A ++ [(k, o)]) k = some o := by
 induction A with
 | nil => simp [lkC]
 | cons p A ih =>
  obtain ⟨s, u⟩ := p
  have hne : ¬ s = k := fun e => by
   subst e
   rw [memN_iff.2 (by simp [keys])] at hk; cases hk
  simp only [List.cons_append, lkC]
  rw [beqf hne]
  refine ih ?_
  cases hm : memN k (keys A) with
  | false => rfl
  | true =>
   rw [memN_iff.2 (by simp only [keys, List.map_cons, List.mem_cons]; exact .inr (memN_iff.1 hm))] at hk
   cases hk
theorem ConOk.frz {f : FuncId} {ays : List D} {H0 : Hc} (H1 : Hc) (k te : Nat) (e : List Fk) (xs : List (RT e)) (h : ConOk P f ⟨ays, H0, .sk k, H1 ++ [(k, .sl te e xs)]⟩) (hk : (!(memN k (keys H1)) && H1.all fun p => allNmO (keys H1) p.2) = true) : ConOk P f ⟨ays, H0, .ls false e xs, H1⟩ := by
 refine ⟨h.1, fun vs g w hS hN hv => (h.2 vs g w hS hN hv).mono fun r w' he => ?_⟩
 simp only [Bool.and_eq_true, List.all_eq_true, Bool.not_eq_true'] at hk
 obtain ⟨c1, c2⟩ := hk
 obtain ⟨v, rfl, g', hp⟩ := he
 have hl := lkC_last (A := H1) (o := .sl te e xs) c1
 have up : ∀ j o, lkC H1 j = some o → lkC (H1 ++ [(k, .sl te e xs)]) j = some o := fun j o hj => lkC_app hj
 have ne : ∀ j o, lkC H1 j = some o → j ≠ k := fun j o hj e => by
  subst e
  have hm : j ∈ keys H1 := List.mem_map.2 ⟨_, lkC_mem' hj, rfl⟩
  rw [memN_iff.2 hm] at c1; cases c1
 let gg : G := ⟨g'.N, g'.F, fun x => g'.X x ∧ x ∉ g'.F k⟩
 obtain ⟨u, ls, n1, n2, n3, n4, n5, n6⟩ := hp.hs.os k _ hl
 have gs : Goes g'.X g'.N w' (fun _ => False) gg.X gg.N w' := ⟨Chp.refl _ _, fun _ h => h.elim, fun x h => .inl h.1, fun _ _ h => h⟩
 have hr : v = u := by
  obtain ⟨u', h1, h2, _⟩ := hp.r
  rw [n1] at h1
  cases h1
  exact (List.cons.inj h2).1
 refine ⟨v, rfl, gg, ⟨hp.go.ch, hp.go.s, fun x hx => hp.go.x x hx.1, fun x hx hn => ⟨hp.go.k x hx hn, fun hk => ?_⟩, hp.go.n, hp.go.f⟩, ?_, ⟨fun x hx => hp.hs.wf x hx.1, fun j o hj => ?_, fun j o hj b hb => ⟨hp.hs.own j o (up j o hj) b hb, fun hk => hp.hs.dis j o k _ (up j o hj) hl (ne j o hj) b hb hk⟩, fun j o j' o' hj hj' => hp.hs.dis j o j' o' (up j o hj) (up j' o' hj')⟩, fun j o hj => hp.fp j o (up j o hj)⟩
 ·rcases hp.fp k _ hl x hk with h1 | h1
  ·exact hn h1
  ·have := hS.wf x hx; omega
 ·subst hr
  refine ⟨v, ls, rfl, ⟨n4, by rw [flat_len n5.row, n5.len], ?_⟩, n5.mono (rS_mv gs _)⟩
  rcases n3.2 with ⟨e1, h0⟩ | ⟨b, cap, cur, e1, k2, k3, k4, k5, k6, k7⟩
  ·exact .inl ⟨rfl, h0, e1⟩
  ·refine .inr ⟨b, 0, cap, e1, k4, k5, fun hx => hx.2 (by rw [n2, e1]; simp [oblk]), OS.lt (hp.hs.os k _ hl) b (by rw [n2, e1]; simp [oblk]), ?_⟩
   rcases n3.at with ⟨e2, _⟩ | ⟨b', cap', e2, _, h3⟩
   ·rw [e1] at e2; cases e2
   ·rw [e1] at e2; cases e2; exact h3
 ·have hc := c2 (j, o) (lkC_mem' hj)
  simp only [allNmO, Bool.and_eq_true, List.all_eq_true] at hc
  exact OS_same (g := g') (g' := gg) hc.1 (fun _ _ => rfl) rfl rfl (fun x hx => hx.1) (hp.hs.os j o (up j o hj))
end
end Go.Sx
namespace Go.Sx
open Go.Mi Go.RowKit
variable [Dfr]
theorem lw_none {β γ : Type} {d : Nat → Bool} {f : β → Nat → Option γ} {k : Nat} : ∀ {bs : List β} {i : Nat} {H : Nat → γ}, (∀ b ∈ bs, f b k = none) → lw d f i bs H k = H k
 | [], _, _, _ => rfl
 | b :: bs, i, H, h => by
  show lw d f (i + 1) bs _ k = _
  rw [lw_none (fun c hc => h c (List.mem_cons_of_mem _ hc))]
  show (bif d i then (f b k).getD (H k) else H k) = H k
  rw [h b (List.mem_cons_self ..)]
  cases d i <;> rfl
def ltNm (nb : Nat) (d : D) : Bool := d.plain && d.nm.all (Nat.blt · nb)
def ltNmO (nb : Nat) : Option O → Bool
 | some o => o.plain && o.nm.all (Nat.blt · nb)
 | none => true
def keepOk (ops : List Oper) (rows : List Rw) (L : DL) (H : Hp) (nb : Nat) (kL kH : List Nat) (d : D) : Bool :=
 ((ops.zip rows).all fun b => (kL.all fun t => (fL b t).isNone) && (kH.all fun k => (fH b k).isNone)) && ((pickD L kL).all fun p => ltNm nb p.2) && ((pickH H kH).all fun p => Nat.blt p.1 nb && ltNmO nb p.2) && ltNm nb d
section
variable {P : Program} {n : Nat} {S0 : Nat → Prop} {g0 : G} {w0 : World} {l : List Oper} {rows : List Rw} {L0 : DL} {H0 : Hp} {nb nb' : Nat} {Q : Exit → Act → World → Prop} {a : Act} {w : World}
theorem lkD_mem' : ∀ {L : DL} {t : Nat} {d : D}, lkD L t = some d → (t, d) ∈ L
 | (s, u) :: r, t, d, h => by
  simp only [lkD] at h
  by_cases e : s = t
  ·subst e; simp at h; subst h; simp
  ·rw [beqf e] at h; exact List.mem_cons_of_mem _ (lkD_mem' h)
theorem lkO_mem' : ∀ {L : Hp} {t : Nat} {d : Option O}, lkO L t = some d → (t, d) ∈ L
 | (s, u) :: r, t, d, h => by
  simp only [lkO] at h
  by_cases e : s = t
  ·subst e; simp at h; subst h; simp
  ·rw [beqf e] at h; exact List.mem_cons_of_mem _ (lkO_mem' h)
theorem ri_pan2 (kL kH : List Nat) {dv : D} (hk : keepOk l rows L0 H0 nb kL kH dv = true) (NLT : ∀ k u, g0.N k = some u → k < nb) (hc : ChkR n nb nb' l rows) {d : Nat → Bool} {i : Nat} {o : Oper} {e : Eff} (hz : (l.zip rows)[i]? = some (o, some e)) (hdi : d i = false) (hcl : ∀ i' j, Ahead l i' j → d i' = true → d j = true) (hah : ∀ j, Ahead l i j → d j = true)
  (hg : gW l (((l.zip rows).take i).foldl stL L0) o = some true) (hp : PnOk P n o (pickD (((l.zip rows).take i).foldl stL L0) (rdO l o)) (lkH (((l.zip rows).take i).foldl stH H0)) e dv)
  (hend : ∀ a g w v, St n S0 g0 w0 (pickD L0 kL) (pickH H0 kH) nb a g w → Sm g w dv v → Q (.panic [{ v, recovered := false }]) a w) {K : Act → World → Prop} (h : RI n S0 g0 w0 l rows L0 H0 nb d a w) : wpOp P l.toArray Q i K a w := by
 obtain ⟨g, hS, hfr, hHS, hfoot, hw⟩ := ri_get hc hz hdi hcl hah h
 simp only [keepOk, Bool.and_eq_true, List.all_eq_true] at hk
 obtain ⟨⟨⟨c1, c2⟩, c3⟩, c4⟩ := hk
 have ho : l[i]? = some o := (List.getElem?_zip_eq_some.1 hz).1
 unfold wpOp
 simp only [List.getElem?_toArray, ho]
 rw [if_pos (hw true hg)]
 refine .inl (hp _ g w hHS hfr.get a K Q hfr.frm ?_)
 rintro v w' ⟨g', hgo, hwf, hsm⟩
 have hfoot2 : ∀ b, e.foot (lw d fH 0 (l.zip rows) (lkH H0)) g b → g.X b := fun b ⟨k, h1, o', h2, h3⟩ => hS.hs.own k o' h2 b h3
 have hgo2 := hgo.mono hfoot hfoot2
 -- what is kept
 have eL : ∀ t dd, lkD (pickD L0 kL) t = some dd → lw d fL 0 (l.zip rows) (lkD L0) t = some dd := fun t dd ht => by
  obtain ⟨h1, h2⟩ := lk_pickD ht
  rw [lw_none fun b hb => Option.isNone_iff_eq_none.1 ((c1 b hb).1 t h1)]
  exact h2
 have eH : ∀ k oo, lkH (pickH H0 kH) k = some oo → k ∈ kH ∧ lw d fH 0 (l.zip rows) (lkH H0) k = some oo := fun k oo ht => by
  obtain ⟨h1, h2⟩ := lk_pickH (lkH_some.1 ht)
  rw [lw_none fun b hb => Option.isNone_iff_eq_none.1 ((c1 b hb).2 k h1)]
  exact ⟨h1, lkH_some.2 h2⟩
 have nwr : ∀ k, k ∈ kH → k ∉ keys e.wr := fun k hk hm => by
  have hb := (c1 _ (List.mem_iff_getElem?.2 ⟨i, hz⟩)).2 k hk
  have : lkO e.outs k = none := Option.isNone_iff_eq_none.1 hb
  refine lkO_keys.1 ?_ this
  simp only [keys, Eff.outs, List.map_append, List.mem_append] at hm ⊢
  exact .inl hm
 let gg : G := ⟨fun k => if k < nb then g'.N k else none, g'.F, g'.X⟩
 have gN : ∀ k, k < nb → gg.N k = g'.N k := fun k hk => if_pos hk
 have nlt : ∀ {ks : List Nat}, (∀ k ∈ ks, Nat.blt k nb = true) → ∀ k ∈ ks, gg.N k = g'.N k := fun hk k h => gN k (by have := hk k h; rwa [Nat.blt_eq] at this)
 have hSm : ∀ dd u, ltNm nb dd = true → Sm g' w' dd u → Sm gg w' dd u := fun dd u h1 h2 => by
  simp only [ltNm, Bool.and_eq_true, List.all_eq_true] at h1
  exact sem_same h1.1 (nlt h1.2) (fun x hx => hx) h2
 have hnf : ∀ k oo, lkH (pickH H0 kH) k = some oo → ∀ b ∈ g.F k, ¬ e.foot (lw d fH 0 (l.zip rows) (lkH H0)) g b := fun k oo hk b hb ⟨k', h1, o', h2, h3⟩ => by
  obtain ⟨h4, h5⟩ := eH k oo hk
  exact hS.hs.dis k oo k' o' h5 h2 (fun e' => nwr k h4 (e' ▸ h1)) b hb h3
 have hOS : ∀ k oo, lkH (pickH H0 kH) k = some oo → OS g' w' k oo := fun k oo hk => (hS.hs.os k oo (eH k oo hk).2).mv hgo2 (hnf k oo hk)
 have hF : ∀ k oo, lkH (pickH H0 kH) k = some oo → g'.F k = g.F k := fun k oo hk => by
  have := hS.hs.os k oo (eH k oo hk).2
  cases oo with
  | ob ty ds => obtain ⟨b, c, h1, _⟩ := this; exact hgo2.f k _ h1
  | sl ty e xs => obtain ⟨u, ls, h1, _⟩ := this; exact hgo2.f k _ h1
 have hkO : ∀ k oo, lkH (pickH H0 kH) k = some oo → k < nb ∧ ltNmO nb (some oo) = true := fun k oo hk => by
  have := c3 _ (lkO_mem' (lkH_some.1 hk))
  simp only [Nat.blt_eq] at this
  exact this
 refine hend a gg w' v ⟨hS.size, hS.defers, fun t dd ht => ?_, ⟨hwf, fun k oo hk => ?_, fun k oo hk b hb => ?_, fun k oo k' oo' hk hk' hne => ?_⟩, ?_, hS.wf0, fun k oo hk b hb => ?_, fun k u hk => ?_⟩ (hSm dv v c4 hsm)
 ·exact hSm dd _ (c2 _ (lkD_mem' ht)) ((hS.fr t dd (eL t dd ht)).mv hgo2)
 ·obtain ⟨h1, h2⟩ := hkO k oo hk
  simp only [ltNmO, Bool.and_eq_true, List.all_eq_true] at h2
  exact OS_same (g := g') (g' := gg) h2.1 (nlt h2.2) (gN k h1) rfl (fun x hx => hx) (hOS k oo hk)
 ·rw [show gg.F k = g.F k from hF k oo hk] at hb
  exact hgo2.k b (hS.hs.own k oo (eH k oo hk).2 b hb) (hnf k oo hk b hb)
 ·rw [show gg.F k = g.F k from hF k oo hk, show gg.F k' = g.F k' from hF k' oo' hk']
  exact hS.hs.dis k oo k' oo' (eH k oo hk).2 (eH k' oo' hk').2 hne
 ·have h1 := hS.go.trans hgo2 hS.wf0 (fun y ⟨k, _, o', h2, h3⟩ => hS.fp k o' h2 y h3)
  refine ⟨h1.ch, h1.s, h1.x, h1.k, fun k u hk => ?_, h1.f⟩
  have hlt : k < nb := by
   exact NLT k u hk
  exact (gN k hlt).trans (h1.n k u hk)
 ·rw [show gg.F k = g.F k from hF k oo hk] at hb
  exact hS.fp k oo (eH k oo hk).2 b hb
 ·by_cases hlt : k < nb
  ·exact hlt
  ·have : gg.N k = none := if_neg hlt
   rw [this] at hk; cases hk
end
def plP2 (n : Nat) (dr : Bool) (ops : List Oper) (ex : Ex) (q : Option CR) (p dd : Nat) (L : DL) (H : Hp) (nb : Nat) (kL kH : List Nat) : Option (List Prop × D) := match planP ops ex q p dd 0 ops L H nb with
 | some (rows, ps, d, nb') => bif chkR n nb nb' ops rows && ddOk dr ops p dd && Nat.blt p ops.length && !(dd.testBit p) && keepOk ops rows L H nb kL kH d then some (ps, d) else none
 | none => none
section
variable {P : Program} {n : Nat} {ops : List Oper} {ex : Ex} {L : DL} {H : Hp} {nb : Nat} {S0 : Nat → Prop} {g0 g : G} {w0 w : World} {Q : Exit → Act → World → Prop} {a : Act}
theorem region_pan2 (kL kH : List Nat) {id : Nat} {dr : Bool} (hm : P.follows .mixedOrders = true) (hex : ExOk P n ex) {q : Option CR} (hc : ∀ r, q = some r → PanOk P r.f r.c) (p dd : Nat) {ps : List Prop} {d : D} (h : plP2 n dr ops ex q p dd L H nb kL kH = some (ps, d)) (hp : AllP ps) (hS : St n S0 g0 w0 L H nb a g w)
  (hend : ∀ a g w v, St n S0 g0 w0 (pickD L kL) (pickH H kH) nb a g w → Sm g w d v → Q (.panic [{ v, recovered := false }]) a w) : (Code.region id ops.toArray dr).wp P Q a w := by
 unfold plP2 at h
 cases hx : planP ops ex q p dd 0 ops L H nb with
 | none => rw [hx] at h; cases h
 | some x =>
  obtain ⟨rows, qs, d1, nb'⟩ := x
  rw [hx] at h
  simp only at h
  cases hb : chkR n nb nb' ops rows && ddOk dr ops p dd && Nat.blt p ops.length && !(dd.testBit p) && keepOk ops rows L H nb kL kH d1 with
  | false => rw [hb] at h; cases h
  | true =>
   rw [hb] at h
   cases h
   simp only [Bool.and_eq_true, Bool.not_eq_true', Nat.blt_eq] at hb
   obtain ⟨⟨⟨⟨b1, b2⟩, b3⟩, b4⟩, b5⟩ := hb
   have hck := ChkR.of b1
   have rowAt := fun j b (hz : (ops.zip rows)[j]? = some b) (hd : dd.testBit j = false) => by
    have := planP_at hex hc hx hp j b hz (by rw [Nat.zero_add]; exact hd)
    rw [Nat.zero_add] at this
    exact this
   have ini : ∀ w, St n S0 g0 w0 L H nb a g w → RI n S0 g0 w0 ops rows L H nb (fun _ => false) a w := fun w hs => ⟨g, hs.weak (fun t d ht => by rw [lw_no] at ht; exact ht) (fun k o hk => by rw [lw_no] at hk; exact hk) fun k hk => .inl hk⟩
   obtain ⟨op, rp, ho, hrp, hzp⟩ := zip_at hck b3
   obtain ⟨e, he1, he2, he3⟩ : ∃ e, rp = some e ∧ _ ∧ _ := by
    have := rowAt p (op, rp) hzp b4
    rw [if_pos rfl] at this
    exact this
   subst he1
   have dead : ∀ i, i < ops.length → dd.testBit i = true → (bif dr then ((befs ops []).getD i 0).testBit p else Nat.blt p i) = true := fun i hi hd => by
    have := List.all_eq_true.1 b2 i (List.mem_range.2 hi)
    rw [hd] at this
    simpa using this
   cases dr with
   | true =>
    refine region_free hm hck.back (fun d a w => RI n S0 g0 w0 ops rows L H nb d a w ∧ d p = false) (fun d d' a w hd hI => ⟨ri_cg hck.len hd hI.1, by rw [← hd p b3]; exact hI.2⟩) ⟨ini _ hS.drew, rfl⟩ (fun d i a w hi hdi hcl hah hI => ?_) fun a w hI => by have := hI.2; cases this
    by_cases hip : i = p
    ·subst hip
     exact ri_pan2 kL kH b5 (fun k u hk => hS.nm k u (hS.go.n k u hk)) hck hzp hdi hcl hah he2 he3 hend hI.1
    ·have hnd : dd.testBit i = false := by
      cases hd : dd.testBit i with
      | false => rfl
      | true =>
       have h1 := befs_ok ops ops [] (fun j o hj => by simpa using hj) (by simp) i p (dead i hi hd)
       have h2 := hah p h1
       rw [hI.2] at h2; cases h2
     refine wpOp_mono (fun a' w' hri => ⟨hri, ?_⟩) (ri_step hck (fun b hb => by have := rowAt i b hb hnd; rwa [if_neg hip] at this) hi hdi hcl hah hI.1)
     show (bif Nat.beq p i then true else d p) = false
     rw [beqf (fun e => hip e.symm)]
     exact hI.2
   | false =>
    refine region_row (fun d a w => RI n S0 g0 w0 ops rows L H nb d a w ∧ d p = false) ⟨ini _ hS, rfl⟩ (fun d d' a w hd hI => ⟨ri_cg hck.len hd hI.1, by rw [← hd p b3]; exact hI.2⟩) (fun i a w hi hI => ?_) fun a w hI => by have := hI.2; cases this
    have ahead_lt : ∀ i j, Ahead ops i j → j < i := fun i j ha => by
     induction ha with
     | edge h1 h2 h3 => exact hck.back _ _ h1 _ h2 h3
     | trans _ _ ih1 ih2 => omega
    have k1 : Nat.blt i i = false := by
     cases hb : Nat.blt i i with
     | false => rfl
     | true => rw [Nat.blt_eq] at hb; omega
    have k2 : ∀ i' j, Ahead ops i' j → Nat.blt i' i = true → Nat.blt j i = true := fun i' j ha hi' => by
     rw [Nat.blt_eq] at hi' ⊢; have := ahead_lt _ _ ha; omega
    have k3 : ∀ j, Ahead ops i j → Nat.blt j i = true := fun j ha => by rw [Nat.blt_eq]; exact ahead_lt _ _ ha
    have hpi : ¬ p < i := fun hlt => by
     have : Nat.blt p i = true := by rw [Nat.blt_eq]; exact hlt
     have h2 : Nat.blt p i = false := hI.2
     rw [this] at h2; cases h2
    by_cases hip : i = p
    ·subst hip
     exact ri_pan2 kL kH b5 (fun k u hk => hS.nm k u (hS.go.n k u hk)) (d := fun j => Nat.blt j i) hck hzp k1 k2 k3 he2 he3 hend hI.1
    ·have hnd : dd.testBit i = false := by
      cases hd : dd.testBit i with
      | false => rfl
      | true =>
       have h1 := dead i hi hd
       simp only [cond_false, Nat.blt_eq] at h1
       exact absurd h1 hpi
     refine wpOp_mono (fun a' w' hri => ⟨hri, ?_⟩) (ri_step (d := fun j => Nat.blt j i) hck (fun b hb => by have := rowAt i b hb hnd; rwa [if_neg hip] at this) hi k1 k2 k3 hI.1)
     show (bif Nat.beq p i then true else Nat.blt p i) = false
     rw [beqf (fun e => hip e.symm)]
     exact hI.2
end
end Go.Sx
namespace Go.Sx
open Go.Mi Go.RowKit
variable [Dfr]
section
variable {P : Program} {g : G} {w : World} {H : Hp}
def ConOkT (T : List Value → World → (Value → World → Prop) → Prop) (c : Con) : Prop :=
 ∀ vs g w, HS (lkC c.H0) g w → (∀ k v, g.N k = some v → k ∈ keys c.H0) → sem g.X g.N w (chain c.args) true vs → T vs w fun v w' => ∃ g', CPost c g w v g' w'
theorem call_postT {T : List Value → World → (Value → World → Prop) → Prop} (hmono : ∀ {vs : List Value} {w : World} {R R' : Value → World → Prop}, T vs w R → (∀ v w', R v w' → R' v w') → T vs w R') {q : CR} (hq : CRok q) (hc : ConOkT T q.c) (hH0 : H0Ok H q.r q.c.H0) (hS : HS (resH (q.eff.rd ++ keys q.eff.wr) (lkH H)) g w) (hnew : ∀ p ∈ q.eff.nw, g.N p.1 = none) {vs : List Value} (hv : sem g.X g.N w (chain (q.c.args.map (D.ren q.r))) true vs) :
  T vs w (fun v w' => ∃ g', Post (lkH H) q.eff g w v g' w') := by
 have hr1 : ∀ k ∈ keys q.ρ, q.r k = rn q.ρ k := fun k hk => by simp only [CR.r, rn_app, hk, if_true]
 have hr2 : ∀ k ∈ keys q.σ, q.r k = rn q.σ k := fun k hk => by simp only [CR.r, rn_app, (hq.new k hk).2, if_false]
 have nd1 : (keys q.ρ).Nodup := by
  have := hq.nod
  simp only [keys, List.map_append] at this
  exact (List.nodup_append.1 this).1
 have nd2 : (keys q.σ).Nodup := by
  have := hq.nod
  simp only [keys, List.map_append] at this
  exact (List.nodup_append.1 this).2.1
 have hinj : ∀ i ∈ keys q.ρ, ∀ j ∈ keys q.ρ, q.r i = q.r j → i = j := fun i hi j hj e => by
  have h1 := inv_of hq.inj (rn_mem nd1 hi)
  have h2 := inv_of hq.inj (rn_mem nd1 hj)
  rw [← hr1 i hi, e, hr1 j hj, h2] at h1
  exact (Option.some.inj h1).symm
 have hwk : ∀ k ∈ keys q.ρ, q.r k ∈ keys q.eff.wr := fun k hk => by
  simp only [CR.eff, keys, List.map_map]
  exact List.mem_map.2 ⟨_, rn_mem nd1 hk, (hr1 k hk).symm⟩
 have hkw : ∀ k ∈ keys q.eff.wr, ∃ j ∈ keys q.ρ, k = q.r j := fun k hk => by
  simp only [CR.eff, keys, List.map_map] at hk
  obtain ⟨p, hp, rfl⟩ := List.mem_map.1 hk
  have h1 : p.1 ∈ keys q.ρ := List.mem_map.2 ⟨p, hp, rfl⟩
  exact ⟨p.1, h1, by rw [hr1 _ h1, rn_of nd1 hp]; rfl⟩
 have obj : ∀ k o, lkC q.c.H0 k = some o → lkH H (q.r k) = some (o.ren q.r) ∧ resH (q.eff.rd ++ keys q.eff.wr) (lkH H) (q.r k) = some (o.ren q.r) := fun k o ho => by
  have h1 := H0Ok_at hH0 ho
  exact ⟨h1, by simp only [resH, memN_iff.2 (List.mem_append_right q.eff.rd (hwk k (hq.h0 k o ho).1)), h1, cond_true]⟩
 have hsome : ∀ k ∈ keys q.ρ, ∃ v, g.N (q.r k) = some v := fun k hk => by
  have := lkC_keys.1 (hq.dom k hk)
  obtain ⟨o, ho⟩ := Option.ne_none_iff_exists'.1 this
  have h1 := hS.os _ _ (obj k o ho).2
  cases o with
  | ob ty ds => obtain ⟨b, c, k1, _⟩ := h1; exact ⟨_, k1⟩
  | sl ty e xs => obtain ⟨b, c, k1, _⟩ := h1; exact ⟨_, k1⟩
 -- what the callee sees
 let gc : G := ⟨fun k => if k ∈ keys q.ρ then g.N (q.r k) else none, fun k => g.F (q.r k), g.X⟩
 have gcN : ∀ k ∈ keys q.ρ, gc.N k = g.N (q.r k) := fun k hk => if_pos hk
 have hSc : HS (lkC q.c.H0) gc w := by
  refine ⟨hS.wf, fun k o ho => ?_, fun k o ho b hb => ?_, fun k o k' o' ho ho' hne b hb hb' => ?_⟩
  ·obtain ⟨h1, h2, h3⟩ := hq.h0 k o ho
   exact (OS_ren h2 (fun j hj => gcN j (h3 j hj)) (gcN k h1) rfl rfl).1 (hS.os _ _ (obj k o ho).2)
  ·exact hS.own _ _ (obj k o ho).2 b hb
  ·exact hS.dis _ _ _ _ (obj k o ho).2 (obj k' o' ho').2 (fun e => hne (hinj k (hq.h0 k o ho).1 k' (hq.h0 k' o' ho').1 e)) b hb hb'
 have hvc : sem gc.X gc.N w (chain q.c.args) true vs := by
  rw [chain_ren] at hv
  refine (sem_ren _ _ _ (chain_plain fun d hd => (hq.args d hd).1) fun k hk => ?_).1 hv
  obtain ⟨d, hd, hk⟩ := chain_nm hk
  exact gcN k ((hq.args d hd).2 k hk)
 refine hmono (hc vs gc w hSc (fun k v hk => ?_) hvc) fun v w' ⟨g', hp⟩ => ?_
 ·by_cases h : k ∈ keys q.ρ
  ·exact hq.dom k h
  ·rw [show gc.N k = none from if_neg h] at hk; cases hk
 -- behind it
 have hnone : ∀ k ∈ keys q.σ, g.N (q.r k) = none := fun k hk => by
  obtain ⟨o, ho⟩ := Option.ne_none_iff_exists'.1 (lkC_keys.1 (hq.new k hk).1)
  refine hnew (q.r k, o.ren q.r) ?_
  simp only [CR.eff, List.mem_filterMap]
  exact ⟨_, rn_mem nd2 hk, by rw [ho, Option.map_some, hr2 k hk]⟩
 let G' : G := ⟨fun k => match g.N k with
  | some v => some v
  | none => (inv q.σ k).bind g'.N, fun k => match g.N k with
  | some _ => g.F k
  | none => match inv q.σ k with
   | some j => g'.F j
   | none => g.F k, g'.X⟩
 have GN : ∀ k ∈ keys (q.ρ ++ q.σ), g'.N k = G'.N (q.r k) := fun k hk => by
  simp only [keys, List.map_append, List.mem_append] at hk
  rcases hk with hk | hk
  ·obtain ⟨v, hv⟩ := hsome k hk
   have h1 : gc.N k = some v := (gcN k hk).trans hv
   rw [hp.go.n k v h1]
   simp only [G', hv]
  ·simp only [G', hnone k hk]
   rw [hr2 k hk, inv_of hq.inj2 (rn_mem nd2 hk)]
   rfl
 have GF : ∀ k ∈ keys (q.ρ ++ q.σ), g'.F k = G'.F (q.r k) := fun k hk => by
  simp only [keys, List.map_append, List.mem_append] at hk
  rcases hk with hk | hk
  ·obtain ⟨v, hv⟩ := hsome k hk
   have h1 : gc.N k = some v := (gcN k hk).trans hv
   rw [hp.go.f k v h1]
   simp only [G', hv]
   rfl
  ·simp only [G', hnone k hk]
   rw [hr2 k hk, inv_of hq.inj2 (rn_mem nd2 hk)]
 have hft : ∀ b, q.c.foot gc b → q.eff.foot (lkH H) g b := fun b ⟨k, o, h1, h2⟩ => ⟨q.r k, hwk k (hq.h0 k o h1).1, _, (obj k o h1).1, h2⟩
 have hft2 : ∀ b, q.eff.foot (lkH H) g b → q.c.foot gc b := fun b ⟨k, h1, o, h2, h3⟩ => by
  obtain ⟨j, hj, rfl⟩ := hkw k h1
  obtain ⟨o', ho'⟩ := Option.ne_none_iff_exists'.1 (lkC_keys.1 (hq.dom j hj))
  exact ⟨j, o', ho', h3⟩
 have houts : ∀ k o, lkH q.eff.outs k = some o → ∃ j o', j ∈ keys (q.ρ ++ q.σ) ∧ k = q.r j ∧ lkC q.c.H1 j = some o' ∧ o = o'.ren q.r := by
  intro k o h
  have h := lkH_some.1 h
  rw [Eff.outs, lkO_app] at h
  cases hw : lkO q.eff.wr k with
  | some x =>
   rw [hw] at h
   cases h
   have : ∀ (a : Ren), (∀ p ∈ a, p ∈ q.ρ) → lkO (a.map fun p => (p.2, (lkC q.c.H1 p.1).map (O.ren q.r))) k = some (some o) → ∃ p ∈ q.ρ, p.2 = k ∧ (lkC q.c.H1 p.1).map (O.ren q.r) = some o := by
    intro a
    induction a with
    | nil => intro _ h; cases h
    | cons p a ih =>
     intro hm h
     simp only [List.map_cons, lkO] at h
     by_cases e : p.2 = k
     ·have hb : Nat.beq p.2 k = true := by rw [e]; exact Nat.beq_refl k
      rw [hb] at h
      simp only [cond_true, Option.some.injEq] at h
      exact ⟨p, hm p (List.mem_cons_self ..), e, h⟩
     ·rw [beqf e] at h; exact ih (fun p hp => hm p (List.mem_cons_of_mem _ hp)) h
   obtain ⟨p, hp1, hp2, hp3⟩ := this q.ρ (fun _ h => h) hw
   obtain ⟨o', h1, h2⟩ := Option.map_eq_some_iff.1 hp3
   have h3 : p.1 ∈ keys q.ρ := List.mem_map.2 ⟨p, hp1, rfl⟩
   exact ⟨p.1, o', by simp only [keys, List.map_append, List.mem_append]; exact .inl h3, by rw [hr1 _ h3, rn_of nd1 hp1, hp2], h1, h2.symm⟩
  | none =>
   rw [hw] at h
   have : ∀ (a : List (Nat × O)), lkO (a.map fun p => (p.1, some p.2)) k = some (some o) → (k, o) ∈ a := by
    intro a
    induction a with
    | nil => intro h; cases h
    | cons p a ih =>
     intro h
     obtain ⟨s, u⟩ := p
     simp only [List.map_cons, lkO] at h
     by_cases e : s = k
     ·subst e; simp at h; subst h; simp
     ·rw [beqf e] at h; exact List.mem_cons_of_mem _ (ih h)
   have hm := this _ h
   simp only [CR.eff, List.mem_filterMap] at hm
   obtain ⟨p, hp1, hp2⟩ := hm
   obtain ⟨o', h1, h2⟩ := Option.map_eq_some_iff.1 hp2
   cases h2
   have h3 : p.1 ∈ keys q.σ := List.mem_map.2 ⟨p, hp1, rfl⟩
   exact ⟨p.1, o', by simp only [keys, List.map_append, List.mem_append]; exact .inr h3, by rw [hr2 _ h3, rn_of nd2 hp1], h1, rfl⟩
 refine ⟨G', ⟨⟨⟨hp.go.ch.os, hp.go.ch.tape, hp.go.ch.output, hp.go.ch.size, fun b hb hn => hp.go.ch.blk b hb fun h => hn (hft b h)⟩, fun x hx => hp.go.s x (hft2 x hx), hp.go.x, fun x hx hn => hp.go.k x hx fun h => hn (hft x h), fun k u hk => by simp only [G', hk], fun k u hk => by simp only [G', hk]⟩, ?_, ⟨hp.hs.wf, fun k o h => ?_, fun k o h b hb => ?_, fun k o k' o' h h' hne b hb hb' => ?_⟩, fun k o h b hb => ?_, fun k u hk => ?_⟩⟩
 ·exact (sem_ren q.c.res _ _ hq.res.1 fun k hk => GN k (hq.res.2 k hk)).2 hp.r
 ·obtain ⟨j, o', h1, rfl, h2, rfl⟩ := houts k o h
  obtain ⟨h3, h4, h5⟩ := hq.h1 j o' h2
  exact (OS_ren h4 (fun i hi => GN i (h5 i hi)) (GN j h3) (GF j h3) rfl).2 (hp.hs.os j o' h2)
 ·obtain ⟨j, o', h1, rfl, h2, rfl⟩ := houts k o h
  rw [← GF j h1] at hb
  exact hp.hs.own j o' h2 b hb
 ·obtain ⟨j, o2, h1, rfl, h2, rfl⟩ := houts k o h
  obtain ⟨j', o2', h1', rfl, h2', rfl⟩ := houts k' o' h'
  rw [← GF j h1] at hb
  rw [← GF j' h1'] at hb'
  exact hp.hs.dis j o2 j' o2' h2 h2' (fun e => hne (by rw [e])) b hb hb'
 ·obtain ⟨j, o', h1, rfl, h2, rfl⟩ := houts k o h
  rw [← GF j h1] at hb
  exact (hp.fp j o' h2 b hb).imp (hft b) id
 ·simp only [G'] at hk
  cases hg : g.N k with
  | some v => rw [hg] at hk; simp only at hk; exact .inl hk
  | none =>
   rw [hg] at hk
   simp only at hk
   obtain ⟨j, hj, _⟩ := Option.bind_eq_some_iff.1 hk
   have hm := inv_mem hj
   have h3 : j ∈ keys q.σ := List.mem_map.2 ⟨_, hm, rfl⟩
   obtain ⟨o, ho⟩ := Option.ne_none_iff_exists'.1 (lkC_keys.1 (hq.new j h3).1)
   refine .inr (List.mem_map.2 ⟨(k, o.ren q.r), ?_, rfl⟩)
   simp only [CR.eff, List.mem_filterMap]
   exact ⟨_, hm, by rw [ho]; rfl⟩
def RetD (P : Program) (f : FuncId) (u u' : FrameMode) (vs : List Value) (w : World) (R : Value → World → Prop) : Prop := CallsD P f vs.toArray u w fun e x w' => ∃ v, e = .returned v ∧ x = u' ∧ R v w'
theorem RetD.mono {f : FuncId} {u u' : FrameMode} {vs : List Value} {w : World} {R R' : Value → World → Prop} (h : RetD P f u u' vs w R) (hr : ∀ v w', R v w' → R' v w') : RetD P f u u' vs w R' :=
 CallsD.mono h fun _ _ w' ⟨v, h1, h2, h3⟩ => ⟨v, h1, h2, hr v w' h3⟩
def ConOkD (P : Program) (f : FuncId) (u u' : FrameMode) (c : Con) : Prop := Go.Mi.Callee P f ∧ ConOkT (RetD P f u u') c
def pnd (v : Value) : FrameMode := .panicking [{ v, recovered := false }]
def rcd (v : Value) : FrameMode := .panicking [{ v, recovered := true }]
def rcv : FrameMode → Option (Value × FrameMode)
 | .returning => some (.nilIface, .returning)
 | .panicking [⟨v, false, false⟩] => some (v, rcd v)
 | _ => none
theorem rcv_ok {u u' : FrameMode} {x : Value} (h : rcv u = some (x, u')) {c₀ : Frame} {cs : List Frame} (hu : c₀.mode = u) :
  (recoverD (c₀ :: cs) = none ∧ x = .nilIface ∧ u' = u) ∨ recoverD (c₀ :: cs) = some (x, { c₀ with mode := u' } :: cs) := by
 unfold rcv at h
 split at h
 ·cases h
  exact .inl ⟨by simp [recoverD, hu], rfl, rfl⟩
 ·cases h
  exact .inr (by simp [recoverD, hu, rcd])
 ·cases h
theorem conD_of (hD : Dfr.ds = ([] : List Deferred)) {f : FuncId} {fn : Func} {rest : Code} {c : Con} {n nb id t0 t1 : Nat} {u u' : FrameMode} {x : Value} {ty ty' : TypeId} {ps ps' : String} {af af' : Array Edge} (hf : P.funcs[f]? = some fn) (hname : (fn.name == "runtime.NumGoroutine") = false)
  (hb : fn.body = some (.seq (.region id #[⟨some t0, .call ⟨.builtin .recover, #[], #[]⟩, ty, ps, af, none⟩, ⟨some t1, .assign (.tmp t0), ty', ps', af', none⟩] false) rest)) (hn : fn.ntmps = n) (hl : Nat.ble c.args.length t1 = true) (ht : Nat.blt t1 t0 = true) (ht2 : Nat.blt t0 n = true) (hone : c.args.all D.one = true) (hk : (keys c.H0).all (Nat.blt · nb) = true) (hr : rcv u = some (x, u'))
  (h : ∀ (g0 : G) (w0 : World) (a : Act) (g : G) (w : World), (∀ k v, g0.N k = some v → k ∈ keys c.H0) → St n (c.foot g0) g0 w0 ((t1, .v x) :: argL c.args 0) (hpC c.H0) nb a g w → rest.wp P (bodyPost P fn (Ret fun v w' => ∃ g', CPost c g0 w0 v g' w')) a w) : ConOkD P f u u' c := by
 refine ⟨⟨fn, hf, hname, by rw [hb]; rfl⟩, fun vs g w hS hN hv => ?_⟩
 have hlen : ∀ {ds : List D} {vs : List Value}, (∀ d ∈ ds, d.one = true) → sem g.X g.N w (chain ds) true vs → vs.length = ds.length := by
  intro ds
  induction ds with
  | nil => intro vs _ h; have : vs = [] := h; subst this; rfl
  | cons d ds ih =>
   rintro vs ho ⟨l1, l2, rfl, h1, h2⟩
   obtain ⟨v, rfl⟩ := sem_one h1 (ho d (List.mem_cons_self ..))
   simp [ih (fun e he => ho e (List.mem_cons_of_mem _ he)) h2]
 have ho := List.all_eq_true.1 hone
 have hvl := hlen ho hv
 have hl := Nat.le_of_ble_eq_true hl
 rw [Nat.blt_eq] at ht ht2
 let a0 : Act := { tmps := vs.toArray ++ Array.replicate (fn.ntmps - vs.toArray.size) undef, defers := [] }
 have hF0 : Frm a0 n (vs.zipIdx.map fun p => (p.2, p.1)) := by subst hn; exact Frm.enter hD (by omega)
 -- the first two
 let a1 : Act := (a0.put (some t0) x).put (some t1) x
 have get1 : ∀ t, a1.tmps.getD t undef = if t = t1 then x else if t = t0 then x else a0.tmps.getD t undef := fun t => by
  have hs := hF0.size
  by_cases e1 : t = t1
  ·subst e1; simp [a1, Act.put, hs, show t < n by omega]
  ·rw [if_neg e1]
   have : a1.tmps.getD t undef = (a0.put (some t0) x).tmps.getD t undef := by
    simp [a1, Act.put, Array.getElem?_setIfInBounds_ne (fun e => e1 e.symm : t1 ≠ t)]
   rw [this]
   by_cases e0 : t = t0
   ·subst e0; simp [Act.put, hs, ht2]
   ·rw [if_neg e0]; simp [Act.put, Array.getElem?_setIfInBounds_ne (fun e => e0 e.symm : t0 ≠ t)]
 have hSt : St n (c.foot g) g w ((t1, .v x) :: argL c.args 0) (hpC c.H0) nb a1 g w := by
  refine ⟨by simp [a1, Act.put, hF0.size], by simp [a1, Act.put, a0, hD], fun t d ht' => ?_, ?_, Go.refl _ _ _ fun x ⟨k, o, h1, h2⟩ => hS.own k o h1 x h2, hS.wf, fun k o hk b hb => .inl ⟨k, o, by rw [← lkH_hpC]; exact hk, hb⟩, fun k v hkv => ?_⟩
  ·simp only [lkD] at ht'
   by_cases e : t1 = t
   ·subst e
    simp at ht'
    subst ht'
    show [_] = [x]
    rw [get1, if_pos rfl]
   ·rw [beqf e] at ht'
    have key : ∀ (ds : List D) (us : List Value) (i : Nat), (∀ d ∈ ds, d.one = true) → sem g.X g.N w (chain ds) true us → (∀ s v, lk ((us.zipIdx i).map fun p => (p.2, p.1)) s = some v → a0.tmps.getD s undef = v) → lkD (argL ds i) t = some d → Sm g w d (a0.tmps.getD t undef) ∧ t < i + ds.length := by
     intro ds
     induction ds with
     | nil => intro us i _ _ _ ht; cases ht
     | cons e ds ih =>
      rintro us i ho ⟨l1, l2, rfl, h1, h2⟩ hg ht
      obtain ⟨v, rfl⟩ := sem_one h1 (ho e (List.mem_cons_self ..))
      simp only [argL, lkD] at ht
      by_cases e' : i = t
      ·subst e'
       simp at ht
       subst ht
       have := hg i v (by simp [lk])
       rw [this]
       exact ⟨h1, by simp⟩
      ·rw [beqf e'] at ht
       have hg' : ∀ s v, lk ((l2.zipIdx (i + 1)).map fun p => (p.2, p.1)) s = some v → a0.tmps.getD s undef = v := by
        intro s v hs
        refine hg s v ?_
        simp only [List.singleton_append, List.zipIdx_cons, List.map_cons, lk]
        have hne : ¬ i = s := fun es => by
         subst es
         have : ∀ (us : List Value) (j : Nat), i < j → lk ((us.zipIdx j).map fun p => (p.2, p.1)) i = none := by
          intro us
          induction us with
          | nil => intro j _; rfl
          | cons u us ih2 =>
           intro j hj
           simp only [List.zipIdx_cons, List.map_cons, lk]
           rw [beqf (show ¬ j = i by omega)]
           exact ih2 (j + 1) (by omega)
         rw [this l2 (i + 1) (by omega)] at hs
         cases hs
        rw [beqf hne]
        exact hs
       obtain ⟨q1, q2⟩ := ih l2 (i + 1) (fun q hq => ho q (List.mem_cons_of_mem _ hq)) h2 hg' ht
       exact ⟨q1, by simp only [List.length_cons]; omega⟩
    obtain ⟨q1, q2⟩ := key c.args vs 0 ho hv hF0.get ht'
    rw [get1, if_neg (fun e' => e e'.symm), if_neg (by omega)]
    exact q1
  ·exact hS.sub fun k o hk => by rw [← lkH_hpC]; exact hk
  ·have := List.all_eq_true.1 hk k (hN k v hkv)
   simpa [Nat.blt_eq] using this
 have hrest := h g w a1 g w hN hSt
 refine callsD_of_wpS hf hb fun c₀ cs hu => ?_
 refine wpS_seq (wpS_region ?_)
 have hfin : ∀ cs', cs' = { c₀ with mode := u' } :: cs → rest.wpS P (bodyPostS P fn c₀ cs fun e x w' => ∃ v, e = .returned v ∧ x = u' ∧ ∃ g', CPost c g w v g' w') a1 cs' w := fun cs' hcs => by
  subst hcs
  intro b k hb' hro
  obtain ⟨e, a', w', hq, harr⟩ := hrest b k ({ c₀ with mode := u' } :: cs)
  refine ⟨e, a', { c₀ with mode := u' } :: cs, w', ?_, harr⟩
  cases e with
  | normal => obtain ⟨h1, v, h2, v2, h3, h4⟩ := hq; cases h3; exact ⟨h1, u', rfl, v, h2, v, rfl, rfl, h4⟩
  | ret => obtain ⟨h1, v, h2, v2, h3, h4⟩ := hq; cases h3; exact ⟨h1, u', rfl, v, h2, v, rfl, rfl, h4⟩
  | panic chain => obtain ⟨h1, v2, h3, _⟩ := hq; cases h3
  | exit id => exact hq.elim
  | goto l => exact hq.elim
  | outgrown => obtain ⟨v2, h3, _⟩ := hq; cases h3
 have hg0' : (a0.put (some t0) x).eval (.tmp t0) = x := by
  show (a0.put (some t0) x).tmps.getD t0 undef = x
  simp [Act.put, hF0.size, ht2]
 have hcm : ({ c₀ with mode := u } : Frame) = c₀ := by subst hu; rfl
 have hx := rcv_ok hr (cs := cs) hu
 have hstep : wpOpsS P #[⟨some t0, .call ⟨.builtin .recover, #[], #[]⟩, ty, ps, af, none⟩, ⟨some t1, .assign (.tmp t0), ty', ps', af', none⟩] (Exit.thenS (rest.wpS P (bodyPostS P fn c₀ cs fun e x w' => ∃ v, e = .returned v ∧ x = u' ∧ ∃ g', CPost c g w v g' w')) (bodyPostS P fn c₀ cs fun e x w' => ∃ v, e = .returned v ∧ x = u' ∧ ∃ g', CPost c g w v g' w')) [0, 1] a0 (c₀ :: cs) w := by
  rcases hx with ⟨h1, h2, h3⟩ | h1
  ·subst h2
   simp only [wpOpsS, Region.wanted, execOp, resolve, invoke, builtin, List.getElem?_toArray, List.getElem?_cons_zero, List.getElem?_cons_succ, Sem.run_bind, Sem.run_pure, Result.andThen_ok, h1, hg0', Oper.upon, if_true, Array.map_empty]
   exact hfin _ (by rw [h3, hcm])
  ·simp only [wpOpsS, Region.wanted, execOp, resolve, invoke, builtin, List.getElem?_toArray, List.getElem?_cons_zero, List.getElem?_cons_succ, Sem.run_bind, Sem.run_pure, Result.andThen_ok, h1, hg0', Oper.upon, if_true, Array.map_empty]
   exact hfin _ rfl
 exact hstep
end
end Go.Sx
namespace Go.Sx
open Go.Mi Go.RowKit
variable [Dfr]
structure Base (S1 : Nat → Prop) (g1 : G) (w1 : World) (S0 : Nat → Prop) (g0 : G) (w0 : World) : Prop where
 s : ∀ y, S1 y → S0 y ∨ w0.heap.size ≤ y
 go : Go S0 g0 w0 g1 w1
 wf : Wf g0 w0
def footH (H : Hp) (g : G) : Nat → Prop := fun b => ∃ k o, lkH H k = some o ∧ b ∈ g.F k
section
variable {P : Program} {n : Nat} {L : DL} {H : Hp} {S0 : Nat → Prop} {g0 g : G} {w0 w : World} {nb : Nat} {a : Act} {Q : Exit → Act → World → Prop}
theorem lk_zip_none {t : Nat} : ∀ (us : List Value) (j : Nat), t < j → lk ((us.zipIdx j).map fun p => (p.2, p.1)) t = none
 | [], _, _ => rfl
 | u :: us, j, h => by
  simp only [List.zipIdx_cons, List.map_cons, lk]
  rw [beqf (show ¬ j = t by omega)]
  exact lk_zip_none us (j + 1) (by omega)
theorem St.begin (hD : Dfr.ds = ([] : List Deferred)) {c : Con} {vs : List Value} (hl : Nat.ble c.args.length n = true) (hone : c.args.all D.one = true) (hk : (keys c.H0).all (Nat.blt · nb) = true) (hS : HS (lkC c.H0) g w) (hN : ∀ k v, g.N k = some v → k ∈ keys c.H0) (hv : sem g.X g.N w (chain c.args) true vs) :
  St n (c.foot g) g w (argL c.args 0) (hpC c.H0) nb { tmps := vs.toArray ++ Array.replicate (n - vs.toArray.size) undef, defers := [] } g w := by
 have hlen : ∀ {ds : List D} {vs : List Value}, (∀ d ∈ ds, d.one = true) → sem g.X g.N w (chain ds) true vs → vs.length = ds.length := by
  intro ds
  induction ds with
  | nil => intro vs _ h; have : vs = [] := h; subst this; rfl
  | cons d ds ih =>
   rintro vs ho ⟨l1, l2, rfl, h1, h2⟩
   obtain ⟨v, rfl⟩ := sem_one h1 (ho d (List.mem_cons_self ..))
   simp [ih (fun e he => ho e (List.mem_cons_of_mem _ he)) h2]
 have ho := List.all_eq_true.1 hone
 have hvl := hlen ho hv
 have hl := Nat.le_of_ble_eq_true hl
 have hF : Frm { tmps := vs.toArray ++ Array.replicate (n - vs.toArray.size) undef, defers := [] } n (vs.zipIdx.map fun p => (p.2, p.1)) := Frm.enter hD (by omega)
 refine ⟨hF.size, hF.defers, fun t d ht => ?_, hS.sub fun k o hk => by rw [← lkH_hpC]; exact hk, Go.refl _ _ _ fun x ⟨k, o, h1, h2⟩ => hS.own k o h1 x h2, hS.wf, fun k o hk b hb => .inl ⟨k, o, by rw [← lkH_hpC]; exact hk, hb⟩, fun k v hkv => ?_⟩
 ·have key : ∀ (ds : List D) (us : List Value) (i : Nat), (∀ d ∈ ds, d.one = true) → sem g.X g.N w (chain ds) true us → (∀ s v, lk ((us.zipIdx i).map fun p => (p.2, p.1)) s = some v → Array.getD (vs.toArray ++ Array.replicate (n - vs.toArray.size) undef) s undef = v) → lkD (argL ds i) t = some d → Sm g w d (Array.getD (vs.toArray ++ Array.replicate (n - vs.toArray.size) undef) t undef) := by
   intro ds
   induction ds with
   | nil => intro us i _ _ _ ht; cases ht
   | cons e ds ih =>
    rintro us i ho ⟨l1, l2, rfl, h1, h2⟩ hg ht
    obtain ⟨v, rfl⟩ := sem_one h1 (ho e (List.mem_cons_self ..))
    simp only [argL, lkD] at ht
    by_cases e' : i = t
    ·subst e'
     simp at ht
     subst ht
     have := hg i v (by simp [lk])
     rw [this]
     exact h1
    ·rw [beqf e'] at ht
     have hg' : ∀ s v, lk ((l2.zipIdx (i + 1)).map fun p => (p.2, p.1)) s = some v → Array.getD (vs.toArray ++ Array.replicate (n - vs.toArray.size) undef) s undef = v := by
      intro s v hs
      refine hg s v ?_
      simp only [List.singleton_append, List.zipIdx_cons, List.map_cons, lk]
      have hne : ¬ i = s := fun es => by subst es; rw [lk_zip_none l2 (i + 1) (by omega)] at hs; cases hs
      rw [beqf hne]
      exact hs
     exact ih l2 (i + 1) (fun q hq => ho q (List.mem_cons_of_mem _ hq)) h2 hg' ht
  exact key c.args vs 0 ho hv hF.get ht
 ·have := List.all_eq_true.1 hk k (hN k v hkv)
  simpa [Nat.blt_eq] using this
theorem conOk_ofDf (hD : Dfr.ds = ([] : List Deferred)) {f : FuncId} {fn : Func} {code : Code} {c : Con} {nb : Nat} (hf : P.funcs[f]? = some fn) (hname : (fn.name == "runtime.NumGoroutine") = false) (hb : fn.body = some code) (hn : fn.ntmps = n) (hl : Nat.ble c.args.length n = true) (hone : c.args.all D.one = true) (hk : (keys c.H0).all (Nat.blt · nb) = true)
  (h : ∀ (g0 : G) (w0 : World) (a : Act) (g : G) (w : World), (∀ k v, g0.N k = some v → k ∈ keys c.H0) → St n (c.foot g0) g0 w0 (argL c.args 0) (hpC c.H0) nb a g w → code.wp P (bodyPostD P fn (Ret fun v w' => ∃ g', CPost c g0 w0 v g' w')) a w) : ConOk P f c := by
 refine ⟨⟨fn, hf, hname, by rw [hb]; rfl⟩, fun vs g w hS hN hv => ?_⟩
 subst hn
 exact calls_of_wp_defers hf hb (h g w _ g w hN (St.begin hD hl hone hk hS hN hv))
theorem defer_x (hD0 : Dfr.ds = ([] : List Deferred)) {id t : Nat} {f : FuncId} {caps : List Operand} {cs : List D} {ty ty' : TypeId} {ps ps' : String} {af af' : Array Edge} (hS : St n S0 g0 w0 L H nb a g w) (hc : opsD L caps = some cs) (ht : (lkD L t).isNone = true) (ht2 : Nat.blt t n = true)
  (h : ∀ (D : Dfr) (vs : List Value) (a' : Act), D.ds = [⟨.fn (.func f) vs.toArray, #[]⟩] → sem g.X g.N w (chain cs) true vs → Base (footH H g) g w S0 g0 w0 → @SS D n (footH H g) g w (lkD L) (lkH H) (· < nb) a' g w → Q .normal a' w) :
  (Code.region id #[⟨some t, .makeFunc (.func f) #[] caps.toArray, ty, ps, af, none⟩, ⟨none, .defer ⟨.value (.tmp t), #[], #[]⟩, ty', ps', af', none⟩] false).wp P Q a w := by
 obtain ⟨vs, hvs, hsem, _⟩ := opsD_ev hS.fx.get hc
 have hev : caps.toArray.map a.eval = vs.toArray := by
  have := hS.fx.frm.evals hvs
  rw [← this, ← List.map_toArray]
 have ht' : lkD L t = none := Option.isNone_iff_eq_none.1 ht
 rw [Nat.blt_eq] at ht2
 let a1 : Act := a.put (some t) (.func (.func f) #[] vs.toArray)
 have g1 : a1.tmps.getD t undef = .func (.func f) #[] vs.toArray := by simp [a1, Act.put, hS.size, ht2]
 let dd : Deferred := ⟨.fn (.func f) vs.toArray, #[]⟩
 let a2 : Act := { a1 with defers := dd :: a1.defers }
 have hSS : @SS ⟨[dd]⟩ n (footH H g) g w (lkD L) (lkH H) (· < nb) a2 g w := by
  refine @SS.mk ⟨[dd]⟩ _ _ _ _ _ _ _ _ _ _ (by simp [a2, a1, Act.put, hS.size]) (by show dd :: a.defers = [dd]; rw [hS.defers, hD0]) (fun u d hu => ?_) hS.hs (Go.refl _ _ _ fun x ⟨k, o, h1, h2⟩ => hS.hs.own k o h1 x h2) hS.hs.wf (fun k o hk b hb => .inl ⟨k, o, hk, hb⟩) hS.nm
  have hne : t ≠ u := fun e => by subst e; rw [ht'] at hu; cases hu
  have : a1.tmps.getD u undef = a.tmps.getD u undef := by simp [a1, Act.put, Array.getElem?_setIfInBounds_ne hne]
  show Sm g w d (a1.tmps.getD u undef)
  rw [this]
  exact hS.fr u d hu
 have fin := h ⟨[dd]⟩ vs a2 rfl hsem ⟨fun y ⟨k, o, h1, h2⟩ => hS.fp k o h1 y h2, hS.go, hS.wf0⟩ hSS
 refine wp_region ?_
 have key : wpOps P #[⟨some t, .makeFunc (.func f) #[] caps.toArray, ty, ps, af, none⟩, ⟨none, .defer ⟨.value (.tmp t), #[], #[]⟩, ty', ps', af', none⟩] Q [0, 1] a w := by
  simp only [wpOps, Region.wanted, List.getElem?_toArray, List.getElem?_cons_zero, List.getElem?_cons_succ, if_true, Oper.wp, execOp, Instr.makeFunc, Array.map_empty, Sem.run_bind, Sem.run_pure, Result.andThen_ok, Oper.upon_value, hev]
  have e1 : (a.put (some t) (.func (.func f) #[] vs.toArray)).eval (.tmp t) = .func (.func f) #[] vs.toArray := g1
  simp only [resolve, e1, Deferred.ofValue, Sem.run_bind, Sem.run_pure, Result.andThen_ok, Oper.upon_defer, Array.map_empty, Array.append_empty]
  exact .inl (.inl fin)
 exact key
theorem invoke_fn {f : FuncId} {xs : Array Value} (hc : Go.Mi.Callee P f) : (invoke (.fn (.func f) xs) #[]).run P w = .ok (.enter f xs) w := by
 obtain ⟨fn, h1, h2, h3⟩ := hc.ok
 simp only [invoke, callFunc, run_program, h1, h2, h3, Sem.run_bind, Result.andThen_ok, Array.empty_append]
 simp only [Bool.false_eq_true, if_false, Sem.run_pure]
theorem fin_b {S1 : Nat → Prop} {g1 : G} {w1 : World} {fn : Func} {c : Con} {ds : List D} (hB : Base S1 g1 w1 (c.foot g0) g0 w0) (hS : St n S1 g1 w1 L H nb a g w) (h : exRvs P L H fn.results.toList = some ds) (hr : weak (resD ds) c.res = c.res) (h1 : H1Ok H c.H1 true) :
  ∃ v, (results fn a.tmps).run P w = .ok v w ∧ ∃ g', CPost c g0 w0 v g' w := by
 obtain ⟨v, h2, h3⟩ := res_ok hS h
 have h4 : Sm g w c.res v := hr ▸ weak_ok h3
 have key : ∀ k o, lkC c.H1 k = some o → lkH H k = some o := by
  have : ∀ (r : Hc), H1Ok H r true → ∀ k o, lkC r k = some o → lkH H k = some o := by
   intro r
   induction r with
   | nil => intro _ k o h; cases h
   | cons p r ih =>
    obtain ⟨s, u⟩ := p
    intro hh k o h
    simp only [lkC] at h
    by_cases e : s = k
    ·subst e; simp at h; subst h; exact hh.1
    ·rw [beqf e] at h; exact ih hh.2 k o h
  exact this c.H1 h1
 refine ⟨v, h2, g, hB.go.trans hS.go hB.wf hB.s, h4, hS.hs.sub key, fun k o hk b hb => ?_⟩
 rcases hS.fp k o (key k o hk) b hb with h5 | h5
 ·exact hB.s b h5
 ·exact .inr (Nat.le_trans hB.go.ch.size h5)
theorem leaves_d {S1 : Nat → Prop} {g1 : G} {w1 : World} {fn : Func} {c : Con} {ds : List D} {u u' : FrameMode} {cs : List D} {vs : List Value} (q : CR) (Ho : Hp) (hB : Base S1 g1 w1 (c.foot g0) g0 w0) (hS : St n S1 g1 w1 L H nb a g w) (hcv : sem g1.X g1.N w1 (chain cs) true vs)
  (hu : u ≠ .run) (hset : settle u' = .returning) (hq : q.chk = true) (hqs : q.σ = []) (hc : ConOkD P q.f u u' q.c) (hcs : cs = q.c.args.map (D.ren q.r)) (hH0 : H0Ok H q.r q.c.H0) (hHo : Ho = q.eff.outs ++ H)
  (h : exRvs P L Ho fn.results.toList = some ds) (hr : weak (resD ds) c.res = c.res) (h1 : H1Ok Ho c.H1 true) :
  Leaves P fn a.tmps (Ret fun v w' => ∃ g', CPost c g0 w0 v g' w') [⟨.fn (.func q.f) vs.toArray, #[]⟩] u w := by
 have hq' := CRok.of hq
 have hv : sem g.X g.N w (chain (q.c.args.map (D.ren q.r))) true vs := by
  rw [← hcs]; exact sem_mv hS.go.goes _ _ _ hcv
 have hnw : q.eff.nw = [] := by simp only [CR.eff, hqs, List.filterMap_nil]
 have hHS : HS (resH (q.eff.rd ++ keys q.eff.wr) (lkH H)) g w := hS.hs.sub fun k o hk => by
  unfold resH at hk
  cases hm : memN k (q.eff.rd ++ keys q.eff.wr) with
  | true => rw [hm] at hk; exact hk
  | false => rw [hm] at hk; cases hk
 have hcall := call_postT (T := RetD P q.f u u') (fun {_ _ _ _} h hr => RetD.mono h hr) hq' hc.2 hH0 hHS (fun p hp => by rw [hnw] at hp; cases hp) hv
 refine leaves_cons hu (invoke_fn hc.1) (CallsD.mono hcall ?_)
 rintro e x w' ⟨v, rfl, rfl, g', hp⟩
 simp only
 rw [hset]
 have hS' : St n S1 g1 w1 L Ho nb a g' w' := by
  have := SS.step (dst := none) (L' := lkD L) (H' := lkH Ho) (nm' := (· < nb)) hS (fun t ht => by cases ht) hp (fun t d ht => .inr ⟨by simp, ht⟩) (fun k o hk => ?_) (fun k hk => hk.elim id fun hk => by rw [hnw] at hk; cases hk)
  ·exact this
  ·subst hHo
   have hk := lkH_some.1 hk
   rw [lkO_app] at hk
   cases hm : lkO q.eff.outs k with
   | some o' => rw [hm] at hk; cases hk; exact .inl (lkH_some.2 hm)
   | none => rw [hm] at hk; exact .inr ⟨fun hh => lkO_keys.1 hh hm, lkH_some.2 hk⟩
 obtain ⟨r, k1, k2⟩ := fin_b hB hS' h hr h1
 exact ⟨r, k1, r, rfl, k2⟩
theorem fin_dr {fn : Func} {R : Ending → World → Prop} {ds : List Deferred} {S1 : Nat → Prop} {e : Exit} (he : e = .normal ∨ e = .ret) (hS : St n S1 g0 w0 L H nb a g w) (hD : Dfr.ds = ds) (h : Leaves P fn a.tmps R ds .returning w) : bodyPostD P fn R e a w := by
 subst hD
 have h2 : Leaves P fn a.tmps R a.defers .returning w := by rw [hS.defers]; exact h
 rcases he with rfl | rfl <;> exact h2
theorem fin_dp {fn : Func} {R : Ending → World → Prop} {ds : List Deferred} {S1 : Nat → Prop} {v : Value} (hS : St n S1 g0 w0 L H nb a g w) (hD : Dfr.ds = ds) (h : Leaves P fn a.tmps R ds (pnd v) w) : bodyPostD P fn R (.panic [{ v, recovered := false }]) a w := by
 subst hD
 show Leaves P fn a.tmps R a.defers _ w
 rw [hS.defers]
 exact h
theorem region_p2 {E : Env} (hm : E.P.follows .mixedOrders = true) (hZ : ZOk E.P E.Z) (C : List (Nat × Rx)) (hC : CsOk E.P C) (q : Option CR) (hq : ∀ r, q = some r → PanOk E.P r.f r.c) (p dd : Nat) (ps : List (Nat × Rx) → List Prop) (d : D) (kL kH : List Nat) (Lo : DL) (Ho : Hp) {id : Nat} {dr : Bool} {ops : List Oper}
  (h : plP2 n dr ops (exA E C) q p dd L H nb kL kH = some (ps C, d)) (hp : AllP (ps C)) (hLo : Lo = pickD L kL) (hHo : Ho = pickH H kH) (hS : St n S0 g0 w0 L H nb a g w) (hend : ∀ a g w v, St n S0 g0 w0 Lo Ho nb a g w → Sm g w d v → Q (.panic [{ v, recovered := false }]) a w) : (Code.region id ops.toArray dr).wp E.P Q a w := by
 subst hLo; subst hHo
 exact region_pan2 kL kH hm (exA_ok hZ hC) hq p dd h hp hS hend
theorem Sm.v_of {x v : Value} (h : Sm g w (.v x) v) : v = x := (List.cons.inj h).1
end
end Go.Sx
namespace Go.Sx
open Go.Mi Go.RowKit
variable [Dfr]
def isN : D → Bool
 | .nil => true
 | _ => false
def frzD (ks : List Nat) (H : Hp) : D → D → D
 | .cons a b, d => (match d with
  | .cons c e => .cons (frzD ks H a c) (frzD ks H b e)
  | d => d)
 | .im p _, d => (match d with
  | .cp k o => bif memN k ks then (match lkH H k with
   | some (.ob _ dk) => bif isN p then .im .nil o else .im (frzD ks H p dk) o
   | _ => .cp k o) else .cp k o
  | .im dd o => bif isN p then .im .nil o else .im (frzD ks H p dd) o
  | d => d)
 | .top, d => bif d.isOne then .top else d
 | p, d => weak d p
def frzL (ks : List Nat) (H : Hp) : List D → List D → List D
 | p :: ps, d :: ds => frzD ks H p d :: frzL ks H ps ds
 | _, ds => ds
def exRd (q : CR) (ks : List Nat) (L : DL) (H : Hp) (op : Op) : Option (Eff × List Prop) := match op with
 | .call c => (match c.callee with
  | .value f => (match exFn L f c.args.toList with
   | some (f, ays) => bif Nat.beq f q.f && q.c.H0.isEmpty && q.c.H1.isEmpty && nofz q.c.res && q.c.res.nm.isEmpty && (q.c.args.all (allNm [])) && ays.all D.one then some (⟨ks, [], [], q.c.res⟩, [frzL ks H q.c.args ays = q.c.args]) else none
   | none => none)
  | _ => none)
 | _ => none
def lkR3 : List (Nat × CR × List Nat) → Nat → Option (CR × List Nat)
 | [], _ => none
 | (s, v) :: r, t => bif Nat.beq s t then some v else lkR3 r t
def C3Ok (P : Program) : List (Nat × CR × List Nat) → Prop
 | [] => True
 | (_, q, _) :: r => ConOk P q.f q.c ∧ C3Ok P r
theorem C3Ok.at {P : Program} : ∀ {C : List (Nat × CR × List Nat)} {i : Nat} {q : CR} {ks : List Nat}, C3Ok P C → lkR3 C i = some (q, ks) → ConOk P q.f q.c
 | (s, x) :: r, i, q, ks, h, hl => by
  simp only [lkR3] at hl
  by_cases e : s = i
  ·subst e; simp at hl; subst hl; exact h.1
  ·rw [beqf e] at hl; exact h.2.at hl
def exA3 (E : Env) (C : List (Nat × Rx)) (C2 : List (Nat × R2)) (C3 : List (Nat × CR × List Nat)) : Ex := fun i L H nb o => match lkR3 C3 i with
 | none => exA2 E C C2 i L H nb o
 | some (q, ks) => exRd q ks L H o.op
section
variable {P : Program} {n : Nat} {L : DL} {H : Hp} {ds : Option Nat} {ty : TypeId} {pos : String} {af : Array Edge} {gu : Option (Nat × Bool)} {g : G} {w : World}
theorem weak_okM {X : Nat → Prop} {N : Nat → Option Value} {w : World} {d e : D} {m : Bool} {l : List Value} (h : sem X N w d m l) : sem X N w (weak d e) m l := by
 unfold weak
 split
 ·obtain ⟨u, ls, h1, h2, h3⟩ := h; exact ⟨u, ls, h1, h2.gen, h3⟩
 ·have : l = [vN] := h
  subst this
  exact ⟨_, [], rfl, Lsl.nil, trivial⟩
 ·have : l = [vN] := h
  subst this
  exact ⟨_, rfl, rfl⟩
 ·split
  ·rename_i q hq
   obtain ⟨u, ls, h1, h2, h3⟩ := h
   subst h1
   exact ⟨u, rfl, (toF_ok (X := X) (N := N) (w := w) (m := m) (a := .os _) (d := .ls true _ _) ⟨u, ls, rfl, h2, h3⟩ hq).1⟩
  ·exact h
 ·exact h
def gfX (g : G) (ks : List Nat) : Nat → Prop := fun x => g.X x ∧ ∀ k ∈ ks, x ∉ g.F k
theorem nm_none {d : D} {N N' : Nat → Option Value} (h : d.nm = []) : ∀ k ∈ d.nm, N' k = N k := fun k hk => by rw [h] at hk; cases hk
theorem frzD_ok {ks : List Nat} (hS : HS (resH ks (lkH H)) g w) : ∀ {p d : D} {m : Bool} {l : List Value}, sem g.X g.N w d m l → (frzD ks H p d).plain = true → (frzD ks H p d).nm = [] → sem (gfX g ks) (fun _ => none) w (frzD ks H p d) m l := by
 have same : ∀ {d : D} {m : Bool} {l : List Value}, sem g.X g.N w d m l → d.plain = true → d.nm = [] → sem (gfX g ks) (fun _ => none) w d m l := fun h hp hn => sem_same hp (nm_none hn) (fun x hx => hx.1) h
 intro p
 induction p with
 | cons a b iha ihb =>
  intro d m l h hp hn
  cases d with
  | cons c e =>
   obtain ⟨l1, l2, rfl, h1, h2⟩ := h
   simp only [frzD, D.plain, Bool.and_eq_true, D.nm, List.append_eq_nil_iff] at hp hn ⊢
   exact ⟨l1, l2, rfl, iha h1 hp.1 hn.1, ihb h2 hp.2 hn.2⟩
  | _ => exact same h hp hn
 | im p o ih =>
  intro d m l h hp hn
  cases d with
  | cp k o' =>
   obtain ⟨b, h1, rfl⟩ := h
   simp only [frzD] at hp hn ⊢
   cases hm : memN k ks with
   | false => simp [hm, D.nm] at hn
   | true =>
    simp only [hm, cond_true] at hp hn ⊢
    split at hp
    ·rename_i ty dk hk
     rw [hk] at hn
     obtain ⟨b', c, k1, k2, k3, k4, k5⟩ := hS.os k _ (by simp only [resH, hm, cond_true]; exact hk)
     rw [h1] at k1
     cases k1
     have hb : ¬ gfX g ks b := fun hx => hx.2 k (memN_iff.1 hm) (by rw [k2]; simp)
     have hlt : b < w.heap.size := OS.lt (hS.os k (.ob ty dk) (by simp only [resH, hm, cond_true]; exact hk)) b (by rw [k2]; simp)
     cases hp2 : isN p with
     | true => exact ⟨b, [], hb, hlt, rfl, fun i u hu => by simp at hu, by simp, rfl⟩
     | false =>
      rw [hp2] at hp hn
      exact ⟨b, c.toList, hb, hlt, rfl, At.of_blk k3, k5, ih k4 hp hn⟩
    ·rename_i hno
     split at hn
     ·rename_i ty dk hk; exact absurd hk (hno ty dk)
     ·simp [D.nm] at hn
  | im dd o' =>
   obtain ⟨b, l', h1, h2, rfl, h3, h4, h5⟩ := h
   simp only [frzD] at hp hn ⊢
   cases hp2 : isN p with
   | true => exact ⟨b, [], fun hx => h1 hx.1, h2, rfl, fun i u hu => by simp at hu, by simp, rfl⟩
   | false =>
    simp only [hp2, cond_false, D.plain, D.nm] at hp hn ⊢
    exact ⟨b, l', fun hx => h1 hx.1, h2, rfl, h3, h4, ih h5 hp hn⟩
  | _ => exact same h hp hn
 | top =>
  intro d m l h hp hn
  simp only [frzD] at hp hn ⊢
  cases ho : d.isOne with
  | true => simp only [cond_true]; obtain ⟨v, h1, _⟩ := sem_isOne h ho; exact ⟨v, h1⟩
  | false => simp only [ho, cond_false] at hp hn ⊢; exact same h hp hn
 | _ => intro d m l h hp hn; exact same (weak_okM h) hp hn
theorem chain_same {ks : List Nat} : ∀ {ays : List D} {vs : List Value}, sem g.X g.N w (chain ays) true vs → (∀ d ∈ ays, allNm [] d = true) → sem (gfX g ks) (fun _ => none) w (chain ays) true vs
 | [], vs, h, _ => h
 | d :: ays, vs, ⟨l1, l2, e, h1, h2⟩, hn => by
  have h3 := hn d (List.mem_cons_self ..)
  simp only [allNm, Bool.and_eq_true, List.all_eq_true] at h3
  have h4 : d.nm = [] := List.eq_nil_iff_forall_not_mem.2 fun k hk => by have := h3.2 k hk; cases this
  exact ⟨l1, l2, e, sem_same h3.1 (nm_none h4) (fun x hx => hx.1) h1, chain_same h2 fun e he => hn e (List.mem_cons_of_mem _ he)⟩
theorem frzL_ok {ks : List Nat} (hS : HS (resH ks (lkH H)) g w) : ∀ {ps ays : List D} {vs : List Value}, sem g.X g.N w (chain ays) true vs → (∀ d ∈ frzL ks H ps ays, allNm [] d = true) → sem (gfX g ks) (fun _ => none) w (chain (frzL ks H ps ays)) true vs
 | [], ays, vs, h, hn => by
  have e : frzL ks H [] ays = ays := by cases ays <;> rfl
  rw [e] at hn ⊢
  exact chain_same h hn
 | p :: ps, [], vs, h, hn => h
 | p :: ps, d :: ays, vs, ⟨l1, l2, e, h1, h2⟩, hn => by
  have h3 := hn (frzD ks H p d) (List.mem_cons_self ..)
  simp only [allNm, Bool.and_eq_true, List.all_eq_true] at h3
  have h4 : (frzD ks H p d).nm = [] := List.eq_nil_iff_forall_not_mem.2 fun k hk => by have := h3.2 k hk; cases this
  exact ⟨l1, l2, e, frzD_ok hS h1 h3.1 h4, frzL_ok hS h2 fun e he => hn e (List.mem_cons_of_mem _ he)⟩
theorem exRd_ok {q : CR} {ks : List Nat} {op : Op} {e : Eff} {ps : List Prop} (hc : ConOk P q.f q.c) (h : exRd q ks L H op = some (e, ps)) (hp : AllP ps) : EOk P n ⟨ds, op, ty, pos, af, gu⟩ L (lkH H) e := by
 unfold exRd at h
 split at h
 ·rename_i c
  obtain ⟨cl, xs, ts⟩ := c
  simp only at h
  split at h
  ·rename_i f
   split at h
   ·rename_i f' ays hfn
    cases hb : Nat.beq f' q.f && q.c.H0.isEmpty && q.c.H1.isEmpty && nofz q.c.res && q.c.res.nm.isEmpty && (q.c.args.all (allNm [])) && ays.all D.one with
    | false => rw [hb] at h; cases h
    | true =>
     rw [hb] at h
     simp only [Bool.and_eq_true, List.all_eq_true, List.isEmpty_iff] at hb
     obtain ⟨⟨⟨⟨⟨⟨b1, b2⟩, b3⟩, b4⟩, b5⟩, b6⟩, b7⟩ := hb
     have b1 := Nat.eq_of_beq_eq_true b1
     subst b1
     cases h
     have hp := hp.1
     intro ξ g w hS hH hn
     have hS : HS (resH ks (lkH H)) g w := by simpa [keys] using hS
     have fin : ∀ {vs : List Value}, sem g.X g.N w (chain ays) true vs → Calls P q.f vs.toArray w (Ret fun v w' => ∃ g', Post (lkH H) ⟨ks, [], [], q.c.res⟩ g w v g' w') := fun {vs} hv => by
      have h1 := frzL_ok (ps := q.c.args) hS hv (by rw [hp]; exact b6)
      rw [hp] at h1
      let gf : G := ⟨fun _ => none, g.F, gfX g ks⟩
      have hnone : ∀ k o, lkC q.c.H0 k ≠ some o := fun k o => by rw [b2]; simp [lkC]
      refine (hc.2 vs gf w ⟨fun x hx => hS.wf x hx.1, fun k o hk => (hnone k o hk).elim, fun k o hk => (hnone k o hk).elim, fun k o k' o' hk => (hnone k o hk).elim⟩ (fun k v hk => by cases hk) h1).mono ?_
      rintro en w' ⟨v, rfl, g', hpo⟩
      have hf : ∀ x, ¬ q.c.foot gf x := fun x ⟨k, o, hk, _⟩ => hnone k o hk
      have hno : ∀ j u, lkH (Eff.outs ⟨ks, [], [], q.c.res⟩) j ≠ some u := fun j u h => by simp [Eff.outs, lkH, lkO] at h
      have hft : ∀ x, ¬ Eff.foot ⟨ks, [], [], q.c.res⟩ (lkH H) g x := fun x ⟨k, hk, _⟩ => by simp [keys] at hk
      refine ⟨v, rfl, g, ⟨⟨hpo.go.ch.os, hpo.go.ch.tape, hpo.go.ch.output, hpo.go.ch.size, fun b hb _ => hpo.go.ch.blk b hb (hf b)⟩, fun x hx => (hft x hx).elim, fun x hx => .inl hx, fun x hx _ => hx, fun _ _ h => h, fun _ _ _ => rfl⟩, nofz_ok b4 (nm_none b5) hpo.r, ⟨fun x hx => Nat.lt_of_lt_of_le (hS.wf x hx) hpo.go.ch.size, fun j u h => (hno j u h).elim, fun j u h => (hno j u h).elim, fun j u _ _ h => (hno j u h).elim⟩, fun j u h => (hno j u h).elim, fun k v h => .inl h⟩
     unfold exFn at hfn
     split at hfn
     ·rename_i f0 first captured as' hx has
      cases he : first.isEmpty && captured.isEmpty with
      | false => rw [he] at hfn; cases hfn
      | true =>
       rw [he] at hfn
       simp only [cond_true, Option.some.injEq, Prod.mk.injEq] at hfn
       obtain ⟨rfl, rfl⟩ := hfn
       rw [Bool.and_eq_true, Array.isEmpty_iff, Array.isEmpty_iff] at he
       obtain ⟨rfl, rfl⟩ := he
       obtain ⟨vs, k1, k2, _⟩ := opsD_ev hH has
       refine ok_callv (first := #[]) (captured := #[]) (opD_v hH hx) hc.1 k1 ?_
       simpa using fin k2
     ·rename_i f0 a b as' hx has
      split at hfn
      ·rename_i a' b' ha hb'
       simp only [Option.some.injEq, Prod.mk.injEq] at hfn
       obtain ⟨rfl, rfl⟩ := hfn
       obtain ⟨v, hv, va, vb, h1, h2, h3⟩ := opD_ev hH hx
       cases (List.cons.inj h3).1
       obtain ⟨vs, k1, k2, _⟩ := opsD_ev hH has
       refine ok_callv hv hc.1 k1 ?_
       have := fin (chain_app (chain_app (unch_ok ha h1) k2) (unch_ok hb' h2))
       simpa using this
      ·cases hfn
     ·cases hfn
   ·cases h
  ·cases h
 ·cases h
theorem exA3_ok {E : Env} {C : List (Nat × Rx)} {C2 : List (Nat × R2)} {C3 : List (Nat × CR × List Nat)} (hZ : ZOk E.P E.Z) (hC : CsOk E.P C) (hC3 : C3Ok E.P C3) : ExOk E.P n (exA3 E C C2 C3) := by
 intro i L H nb o e ps h hp
 unfold exA3 at h
 split at h
 ·exact exA2_ok hZ hC i L H nb o e ps h hp
 ·rename_i q ks hq
  obtain ⟨ds, op, ty, pos, af, gu⟩ := o
  exact exRd_ok (hC3.at hq) h hp
end
end Go.Sx
namespace Go.Sx
open Go.Mi Go.RowKit
variable [Dfr]
theorem rounds_s {P : Program} {c : Code} {Q : Exit → Act → World → Prop} {n : Nat} {a : Act} {w : World} (h : c.wp P (Exit.then (Code.rounds P c Q n) Q) a w) : Code.rounds P c Q (n + 1) a w := h
end Go.Sx
namespace Go.Sx
open Go.Mi Go.RowKit
variable [Dfr]
abbrev Sg := DL × Hp
def Sp (n : Nat) (S0 : Nat → Prop) (g0 : G) (w0 : World) (σ : Sg) (nb : Nat) (a : Act) (g : G) (w : World) : Prop := St n S0 g0 w0 σ.1 σ.2 nb a g w
abbrev Px := Option (List Prop × DL × Hp × Nat)
def xS : Px → Sg
 | some (_, L, H, _) => (L, H)
 | none => ([], [])
def xP (r : Px) : Option (List Prop × Nat) := r.map fun x => (x.1, x.2.2.2)
theorem xP_of {r : Px} {ps : List Prop} {nb : Nat} (h : xP r = some (ps, nb)) : r = some (ps, (xS r).1, (xS r).2, nb) := by
 obtain ⟨⟨p, L, H, m⟩, rfl, h2⟩ := Option.map_eq_some_iff.1 h
 simp only [Prod.mk.injEq] at h2
 obtain ⟨rfl, rfl⟩ := h2
 rfl
abbrev vi (x : Int) : D := .v (.int .i64 x)
abbrev lb (x : List Int) : D := .ls false [.int .u8] x
theorem lnn {p : Prop} (h : p := by first | omega | (simp only [List.length_append, List.length_drop, List.length_take, List.length_replicate, List.length_cons, List.length_nil, List.length_map, List.length_range] <;> omega) | (simp <;> omega)) : p := h
theorem omm {p : Prop} (h : p := by omega) : p := h
theorem asm {p : Prop} (h : p := by assumption) : p := h
theorem lmm {p : Prop} (h : p := by first | assumption | (simp <;> omega)) : p := h
section
variable {P : Program} {n : Nat} {L : DL} {H : Hp} {σ : Sg} {S0 : Nat → Prop} {g0 g : G} {w0 w : World} {nb : Nat} {a : Act} {Q : Exit → Act → World → Prop}
theorem SS.sp (hS : St n S0 g0 w0 L H nb a g w) : Sp n S0 g0 w0 (L, H) nb a g w := hS
theorem Sp.st (hS : Sp n S0 g0 w0 σ nb a g w) : St n S0 g0 w0 σ.1 σ.2 nb a g w := hS
abbrev plS (n : Nat) (ops : List Oper) (ex : Ex) (σ : Sg) (nb : Nat) (kL kH : List Nat) : Px := plX n ops ex σ.1 σ.2 nb kL kH
theorem reg_y {id : Nat} {dr : Bool} {ops : List Oper} {ex : Ex} (hm : P.follows .mixedOrders = true) (hex : ExOk P n ex) (ps : List Prop) (kL kH : List Nat) (nb' : Nat) (hp : AllP ps) (hS : Sp n S0 g0 w0 σ nb a g w) (hend : ∀ a g w, Sp n S0 g0 w0 (xS (plS n ops ex σ nb kL kH)) nb' a g w → Q .normal a w)
  (h : xP (plS n ops ex σ nb kL kH) = some (ps, nb')) (hle : Nat.ble nb nb' = true) : (Code.region id ops.toArray dr).wp P Q a w :=
 region_x hm hex (xP_of h) hp hle hS hend
theorem Sp.rv (hS : Sp n S0 g0 w0 σ nb a g w) (L' : DL) (H' : Hp) (hL : pickD σ.1 (keys L') = L' := by kernel_rfl) (hH : pickH σ.2 (keys H') = H' := by kernel_rfl) : St n S0 g0 w0 L' H' nb a g w :=
 SS.weak hS (fun t d ht => (lk_pickD (ts := keys L') (by rw [hL]; exact ht)).2) (fun k o hk => lkH_pick (ts := keys H') (by rw [hH]; exact hk)) fun _ h => h
theorem if_y {x y : Code} {c : Operand} (t : Bool) (hS : Sp n S0 g0 w0 σ nb a g w) (ht : t = true → x.wp P Q a w) (hf : t = false → y.wp P Q a w) (hc : opD σ.1 c = some (.v (.bool t)) := by kernel_rfl) : (Code.cond c x y).wp P Q a w :=
 if_x hS.st hc ht hf
theorem if_d {x y : Code} {c : Operand} (p : Prop) [Decidable p] (hS : Sp n S0 g0 w0 σ nb a g w) (ht : p → x.wp P Q a w) (hf : ¬ p → y.wp P Q a w) (hc : opD σ.1 c = some (.v (.bool (decide p))) := by kernel_rfl) : (Code.cond c x y).wp P Q a w :=
 if_x hS.st hc (fun h => ht (of_decide_eq_true h)) fun h => hf (of_decide_eq_false h)
theorem if_n {x y : Code} {c : Operand} (p : Prop) [Decidable p] (hS : Sp n S0 g0 w0 σ nb a g w) (ht : ¬ p → x.wp P Q a w) (hf : p → y.wp P Q a w) (hc : opD σ.1 c = some (.v (.bool (!decide p))) := by kernel_rfl) : (Code.cond c x y).wp P Q a w :=
 if_x hS.st hc (fun h => ht fun hp => by rw [decide_eq_true hp] at h; cases h) fun h => hf (by simpa using h)
theorem cond_t {x y : Code} {c : Operand} (hS : Sp n S0 g0 w0 σ nb a g w) (h : x.wp P Q a w) (hc : opD σ.1 c = some (.v (.bool true)) := by kernel_rfl) : (Code.cond c x y).wp P Q a w :=
 if_x hS.st hc (fun _ => h) fun h => nomatch h
theorem cond_f {x y : Code} {c : Operand} (hS : Sp n S0 g0 w0 σ nb a g w) (h : y.wp P Q a w) (hc : opD σ.1 c = some (.v (.bool false)) := by kernel_rfl) : (Code.cond c x y).wp P Q a w :=
 if_x hS.st hc (fun h => nomatch h) fun _ => h
theorem Sp.ren {ks0 : List Nat} (hg0 : ∀ k v, g0.N k = some v → k ∈ ks0) (hS : Sp n S0 g0 w0 σ nb a g w) (ρ : Ren) (L' : DL) (H' : Hc) (nb' : Nat) (hc : chkRen ρ ks0 L' H' nb' = true) (hL : pickD σ.1 (keys L') = L'.map fun p => (p.1, p.2.ren (rn ρ))) (hH : (H'.map fun p => lkH σ.2 (rn ρ p.1)) = H'.map fun p => some (p.2.ren (rn ρ))) : ∃ g', St n S0 g0 w0 L' (hpC H') nb' a g' w := by
 refine St.ren hg0 hS.st ρ L' H' nb' hc hL ?_
 clear hc hL
 induction H' with
 | nil => trivial
 | cons p r ih =>
  obtain ⟨j, o⟩ := p
  simp only [List.map_cons, List.cons.injEq] at hH
  exact ⟨hH.1, ih hH.2⟩
theorem Sp.rn {ks0 : List Nat} (hS : Sp n S0 g0 w0 σ nb a g w) (ρ : Ren) (L' : DL) (H' : Hc) (nb' : Nat) (hg0 : ∀ k v, g0.N k = some v → k ∈ ks0) (hc : chkRen ρ ks0 L' H' nb' = true := by kernel_rfl) (hL : pickD σ.1 (keys L') = L'.map fun p => (p.1, p.2.ren (rn ρ)) := by kernel_rfl) (hH : (H'.map fun p => lkH σ.2 (rn ρ p.1)) = (H'.map fun p => some (p.2.ren (rn ρ))) := by kernel_rfl) : ∃ g', Sp n S0 g0 w0 (L', hpC H') nb' a g' w :=
 Sp.ren hg0 hS ρ L' H' nb' hc hL hH
theorem loop_y {ι : Type} {code : Code} {ks0 : List Nat} (hg0 : ∀ k v, g0.N k = some v → k ∈ ks0) (hS : Sp n S0 g0 w0 σ nb a g w) (m : ι → Nat) (Li : ι → DL) (Hi : ι → Hc) (Pi : ι → Prop) (nb' : Nat) (s0 : ι) (ρ : Ren) (hP : Pi s0)
  (step : ∀ s a g w, Pi s → Sp n S0 g0 w0 (Li s, hpC (Hi s)) nb' a g w → code.wp P (Exit.then (fun a' w' => ∃ s', m s' < m s ∧ Pi s' ∧ ∃ g', Sp n S0 g0 w0 (Li s', hpC (Hi s')) nb' a' g' w') Q) a w)
  (h1 : chkRen ρ ks0 (Li s0) (Hi s0) nb' = true := by kernel_rfl) (h2 : pickD σ.1 (keys (Li s0)) = (Li s0).map fun p => (p.1, p.2.ren (rn ρ)) := by kernel_rfl) (h3 : ((Hi s0).map fun p => lkH σ.2 (rn ρ p.1)) = ((Hi s0).map fun p => some (p.2.ren (rn ρ))) := by kernel_rfl) : (Code.loop code).wp P Q a w := by
 obtain ⟨g', hS'⟩ := Sp.ren hg0 hS ρ (Li s0) (Hi s0) nb' h1 h2 h3
 exact loop_x m Li (fun s => hpC (Hi s)) Pi s0 hP hS' step
theorem next_y {ι : Type} {ks0 : List Nat} (hg0 : ∀ k v, g0.N k = some v → k ∈ ks0) (hS : Sp n S0 g0 w0 σ nb a g w) {m : ι → Nat} {Li : ι → DL} {Hi : ι → Hc} {Pi : ι → Prop} {nb' : Nat} {s : ι} (s' : ι) (ρ : Ren) (hm : m s' < m s) (hP : Pi s') (h1 : chkRen ρ ks0 (Li s') (Hi s') nb' = true := by kernel_rfl) (h2 : pickD σ.1 (keys (Li s')) = (Li s').map fun p => (p.1, p.2.ren (rn ρ)) := by kernel_rfl) (h3 : ((Hi s').map fun p => lkH σ.2 (rn ρ p.1)) = ((Hi s').map fun p => some (p.2.ren (rn ρ))) := by kernel_rfl) :
  ∃ s', m s' < m s ∧ Pi s' ∧ ∃ g', Sp n S0 g0 w0 (Li s', hpC (Hi s')) nb' a g' w := by
 obtain ⟨g', hS'⟩ := Sp.ren hg0 hS ρ (Li s') (Hi s') nb' h1 h2 h3
 exact ⟨s', hm, hP, g', hS'⟩
def frd (nn : Bool) : Option O → D
 | some (.sl _ e xs) => .ls nn e xs
 | _ => .top
def isSl : Option O → Bool
 | some (.sl ..) => true
 | _ => false
def obd : Option O → D
 | some (.ob _ d) => d
 | _ => .nil
def oty : Option O → TypeId
 | some (.ob t _) => t
 | _ => 0
def isOb : Option O → Bool
 | some (.ob ..) => true
 | _ => false
theorem isSl_of {o : Option O} (h : isSl o = true) : ∃ te e xs, o = some (.sl te e xs) := by
 cases o with
 | none => cases h
 | some o => cases o with
  | ob => cases h
  | sl te e xs => exact ⟨te, e, xs, rfl⟩
theorem isOb_of {o : Option O} (h : isOb o = true) : o = some (.ob (oty o) (obd o)) := by
 cases o with
 | none => cases h
 | some o => cases o with
  | sl => cases h
  | ob t d => rfl
theorem Sp.fz (hS : Sp n S0 g0 w0 σ nb a g w) (k : Nat) (hk : isSl (lkH σ.2 k) = true := by kernel_rfl) : ∃ g', Sp n S0 g0 w0 (σ.1.map fun p => (p.1, p.2.sb k (fun o => .cp k o) (frd false (lkH σ.2 k))), (k, none) :: σ.2.map fun p => (p.1, p.2.map (O.sb · k (fun o => .cp k o) (frd false (lkH σ.2 k))))) nb a g' w := by
 obtain ⟨te, e, xs, h⟩ := isSl_of hk
 rw [h]
 exact St.frz hS.st k false nofun h rfl rfl
theorem Sp.im (hS : Sp n S0 g0 w0 σ nb a g w) (k : Nat) (hk : isOb (lkH σ.2 k) = true := by kernel_rfl) : ∃ g', Sp n S0 g0 w0 (σ.1.map fun p => (p.1, p.2.sb k (fun o => .im (obd (lkH σ.2 k)) o) (.sk k)), (k, none) :: σ.2.map fun p => (p.1, p.2.map (O.sb · k (fun o => .im (obd (lkH σ.2 k)) o) (.sk k)))) nb a g' w :=
 St.imm hS.st k (isOb_of hk) rfl rfl
theorem Sp.wk (hS : Sp n S0 g0 w0 σ nb a g w) (t : Nat) (e : D) (ht : (lkD σ.1 t).isSome = true := by kernel_rfl) : Sp n S0 g0 w0 (upL t (weak ((lkD σ.1 t).getD .top) e) σ.1, σ.2) nb a g w := by
 obtain ⟨d, hd⟩ := Option.isSome_iff_exists.1 ht
 rw [hd]
 exact St.wk hS.st t e hd rfl
theorem Sp.wko (hS : Sp n S0 g0 w0 σ nb a g w) (k : Nat) (es : List D) (hk : isOb (lkH σ.2 k) = true := by kernel_rfl) : Sp n S0 g0 w0 (σ.1, (k, some (.ob (oty (lkH σ.2 k)) (wkC (obd (lkH σ.2 k)) es))) :: σ.2) nb a g w :=
 St.wko hS.st k es (isOb_of hk) rfl
theorem Sp.alias (hS : Sp n S0 g0 w0 σ nb a g w) (k : Nat) (hk : (lkH σ.2 k).isSome = true := by kernel_rfl) : ∃ g', Sp n S0 g0 w0 (σ.1.map fun p => (p.1, p.2.sb k (fun o => .cp nb o) (.sk nb)), (k, none) :: (nb, (lkH σ.2 k).map (O.sb · k (fun o => .cp nb o) (.sk nb))) :: σ.2.map fun p => (p.1, p.2.map (O.sb · k (fun o => .cp nb o) (.sk nb)))) (nb + 1) a g' w := by
 obtain ⟨o, ho⟩ := Option.isSome_iff_exists.1 hk
 rw [ho]
 exact St.alias hS.st k ho rfl rfl
theorem Sp.nilk (hS : Sp n S0 g0 w0 σ nb a g w) (t : Nat) (te : TypeId) (e : List Fk) (ht : lkD σ.1 t = some (.v (.slice none 0 0)) := by kernel_rfl) : ∃ g', Sp n S0 g0 w0 (upL t (.sk nb) σ.1, (nb, some (.sl te e [])) :: σ.2) (nb + 1) a g' w :=
 St.nilk hS.st t te e ht rfl rfl
def isSm : Option D → Bool := Option.isSome
theorem Sp.nilob (hS : Sp n S0 g0 w0 σ nb a g w) (k i : Nat) (te : TypeId) (e : List Fk) (hk : isOb (lkH σ.2 k) = true := by kernel_rfl) (hd : isSm (nlD nb i (obd (lkH σ.2 k))) = true := by kernel_rfl) : ∃ g', Sp n S0 g0 w0 (σ.1, (nb, some (.sl te e [])) :: (k, some (.ob (oty (lkH σ.2 k)) ((nlD nb i (obd (lkH σ.2 k))).getD .nil))) :: σ.2) (nb + 1) a g' w := by
 obtain ⟨d', h⟩ := Option.isSome_iff_exists.1 hd
 rw [h]
 exact St.nilob hS.st k i te e (isOb_of hk) h rfl
theorem Sp.nilor (hS : Sp n S0 g0 w0 σ nb a g w) (t : Nat) (e : List Fk) (xs : List (RT e)) (ht : lkD σ.1 t = some (.ls false e xs) := by kernel_rfl) : (xs = [] ∧ Sp n S0 g0 w0 (upL t (.v (.slice none 0 0)) σ.1, σ.2) nb a g w) ∨ Sp n S0 g0 w0 (upL t (.ls true e xs) σ.1, σ.2) nb a g w :=
 St.nilor hS.st t ht rfl rfl
theorem fin_y (hD : Dfr.ds = ([] : List Deferred)) {fn : Func} {c : Con} {e : Exit} (he : e = .normal ∨ e = .ret) (hS : Sp n (c.foot g0) g0 w0 σ nb a g w) (ds : List D) (Hx : Hp) (hr : weak (resD ds) c.res = c.res) (h1 : H1Ok Hx c.H1 true) (h : exRvs P σ.1 σ.2 fn.results.toList = some ds := by kernel_rfl) (hx : pickH σ.2 (keys Hx) = Hx := by kernel_rfl) : bodyPost P fn (Ret fun v w' => ∃ g', CPost c g0 w0 v g' w') e a w := by
 refine fin_x hD he hS.st h hr ?_
 have key : ∀ (r : Hc), H1Ok Hx r true → H1Ok σ.2 r true := by
  intro r
  induction r with
  | nil => exact fun h => h
  | cons p r ih =>
   obtain ⟨k, o⟩ := p
   exact fun h => ⟨lkH_pick (ts := keys Hx) (by rw [hx]; exact h.1), ih h.2⟩
 exact key _ h1
end
end Go.Sx
namespace Go.Sx.Tryz
open Go.Mi Go.RowKit Go.Sx Go.Proofs
def Z0 : Zt := [(3, [.v (.int .i64 0)]),
 (5, [.v (.int .u8 0)]),
 (22, [.v (.slice none 0 0)]),
 (35, [.v (.int .i64 0), .v (.int .i64 0), .v (.slice none 0 0)]),
 (39, [.v (.pointer none), .v (.pointer none), .v (.int .i64 0), .v (.int .i64 0), .v (.slice none 0 0), .v (.int .i64 0), .v (.int .i64 0), .v (.slice none 0 0), .v (.slice none 0 0)]),
 (44, [.v (.int .i64 0)]),
 (48, [.v (.int .i64 0), .v (.int .i64 0), .v (.slice none 0 0), .v (.slice none 0 0)]),
 (76, [.v (.pointer none)]),
 (80, [.v (.slice none 0 0), .v (.bool false), .v (.bool false), .v (.pointer none), .v (.pointer none), .v (.pointer none), .v (.int .i64 0), .v (.slice none 0 0), .v (.int .i64 0), .v (.int .i64 0), .v (.slice none 0 0)]),
 (86, [.v (.int .i64 0), .v (.int .i64 0), .v (.slice none 0 0)]),
 (97, [.v (.slice none 0 0)]),
 (115, [.v (.slice none 0 0), .v (.int .i64 0), .v (.int .i64 0), .v (.int .i64 0), .v (.slice none 0 0), .v (.slice none 0 0)]),
 (122, [.v (.slice none 0 0), .v (.int .i64 0)]),
 (126, [.v (.int .i64 0), .v (.int .i64 0), .v (.int .i64 0), .v (.int .i64 0), .v (.slice none 0 0), .v (.slice none 0 0), .v (.pointer none), .v (.slice none 0 0)]),
 (129, [.v (.slice none 0 0)]),
 (133, [.v (.int .i64 0), .v (.int .i64 0), .v (.int .i64 0), .v (.slice none 0 0)]),
 (148, [.v (.pointer none)]),
 (172, [.v (.slice none 0 0), .v (.pointer none)]),
 (177, [.ar .u32 8 (fun _ => 0)]),
 (179, [.ar .u32 8 (fun _ => 0), .v (.slice none 0 0), .v (.int .u64 0)]),
 (181, [.v (.pointer none), .v (.pointer none)]),
 (182, [.ar .u8 64 (fun _ => 0)]),
 (187, [.v (.int .i64 0), .v (.int .i64 0), .v (.int .i64 0), .v (.slice none 0 0)]),
 (188, [.v (.slice none 0 0)]),
 (197, [.ar .u64 80 (fun _ => 0)]),
 (199, [.ar .u64 8 (fun _ => 0)]),
 (201, [.ar .u32 64 (fun _ => 0)]),
 (205, [.v (.pointer none)]),
 (210, [.v (.int .u16 0)]),
 (212, [.ar .u16 256 (fun _ => 0)]),
 (214, [.ar .u16 768 (fun _ => 0)]),
 (233, [.ar .u32 128 (fun _ => 0)]),
 (241, [.ar .u8 16 (fun _ => 0)]),
 (248, [.ar .u64 25 (fun _ => 0)]),
 (250, [.ar .u64 25 (fun _ => 0), .v (.int .i64 0), .v (.int .i64 0)]),
 (258, [.ar .u8 256 (fun _ => 0), .ar .u8 240 (fun _ => 0)]),
 (260, [.ar .u8 4 (fun _ => 0)]),
 (263, [.ar .u64 25 (fun _ => 0)]),
 (266, [.v .nilFunc, .v .nilFunc, .v .nilFunc]),
 (267, [.ar .u64 24 (fun _ => 0)]),
 (270, [.v (.pointer none)]),
 (273, [.ar .u64 5 (fun _ => 0)])]
def K0 : Kt := [(3, [.int .i64]), (5, [.int .u8]), (22, [.sl (.int .u8)]), (48, [.int .i64, .int .i64, .sl (.int .u8), .sl (.int .u8)]), (76, [.ref]), (86, [.int .i64, .int .i64, .sl (.sl (.int .u8))]), (133, [.int .i64, .int .i64, .int .i64, .sl (.int .u8)]), (148, [.ref]), (205, [.ref]), (210, [.int .u16])]
noncomputable def E0 : Env := ⟨Tryz.prog, Z0, K0⟩
set_option maxRecDepth 100000 in
theorem hZ : ZOk Tryz.prog Z0 := ⟨⟨by kernel_rfl, by kernel_rfl⟩, ⟨by kernel_rfl, by kernel_rfl⟩, ⟨by kernel_rfl, by kernel_rfl⟩, ⟨by kernel_rfl, by kernel_rfl⟩, ⟨by kernel_rfl, by kernel_rfl⟩, ⟨by kernel_rfl, by kernel_rfl⟩, ⟨by kernel_rfl, by kernel_rfl⟩, ⟨by kernel_rfl, by kernel_rfl⟩, ⟨by kernel_rfl, by kernel_rfl⟩, ⟨by kernel_rfl, by kernel_rfl⟩, ⟨by kernel_rfl, by kernel_rfl⟩, ⟨by kernel_rfl, by kernel_rfl⟩, ⟨by kernel_rfl, by kernel_rfl⟩, ⟨by kernel_rfl, by kernel_rfl⟩, ⟨by kernel_rfl, by kernel_rfl⟩, ⟨by kernel_rfl, by kernel_rfl⟩, ⟨by kernel_rfl, by kernel_rfl⟩, ⟨by kernel_rfl, by kernel_rfl⟩, ⟨by kernel_rfl, by kernel_rfl⟩, ⟨by kernel_rfl, by kernel_rfl⟩, ⟨by kernel_rfl, by kernel_rfl⟩, ⟨by kernel_rfl, by kernel_rfl⟩, ⟨by kernel_rfl, by kernel_rfl⟩, ⟨by kernel_rfl, by kernel_rfl⟩, ⟨by kernel_rfl, by kernel_rfl⟩, ⟨by kernel_rfl, by kernel_rfl⟩, ⟨by kernel_rfl, by kernel_rfl⟩, ⟨by kernel_rfl, by kernel_rfl⟩, ⟨by kernel_rfl, by kernel_rfl⟩, ⟨by kernel_rfl, by kernel_rfl⟩, ⟨by kernel_rfl, by kernel_rfl⟩, ⟨by kernel_rfl, by kernel_rfl⟩, ⟨by kernel_rfl, by kernel_rfl⟩, ⟨by kernel_rfl, by kernel_rfl⟩, ⟨by kernel_rfl, by kernel_rfl⟩, ⟨by kernel_rfl, by kernel_rfl⟩, ⟨by kernel_rfl, by kernel_rfl⟩, ⟨by kernel_rfl, by kernel_rfl⟩, ⟨by kernel_rfl, by kernel_rfl⟩, ⟨by kernel_rfl, by kernel_rfl⟩, ⟨by kernel_rfl, by kernel_rfl⟩, ⟨by kernel_rfl, by kernel_rfl⟩, trivial⟩
theorem mo : Tryz.prog.follows .mixedOrders = true := by kernel_rfl
section
variable [Dfr]
theorem r0 {n : Nat} {σ : Sg} {S0 : Nat → Prop} {g0 g : G} {w0 w : World} {nb : Nat} {a : Act} {Q : Exit → Act → World → Prop} (kL kH : List Nat) (nb' : Nat) {id : Nat} {dr : Bool} {ops : List Oper} (hS : Sp n S0 g0 w0 σ nb a g w) (hend : ∀ {a g w}, Sp n S0 g0 w0 (xS (plS n ops (exA E0 []) σ nb kL kH)) nb' a g w → Q .normal a w) (h : xP (plS n ops (exA E0 []) σ nb kL kH) = some ([], nb') := by kernel_rfl) (hle : Nat.ble nb nb' = true := by kernel_rfl) : (Code.region id ops.toArray dr).wp Tryz.prog Q a w := reg_y mo (exA_ok (C := []) hZ (show CsOk Tryz.prog [] from trivial)) [] kL kH nb' trivial hS (fun _ _ _ h => hend h) h hle
theorem rA {n : Nat} {σ : Sg} {S0 : Nat → Prop} {g0 g : G} {w0 w : World} {nb : Nat} {a : Act} {Q : Exit → Act → World → Prop} (C : List (Nat × Rx)) (hC : CsOk Tryz.prog C) (ps : List (Nat × Rx) → List Prop) (kL kH : List Nat) (nb' : Nat) {id : Nat} {dr : Bool} {ops : List Oper} (hp : AllP (ps C)) (hS : Sp n S0 g0 w0 σ nb a g w) (hend : ∀ {a g w}, Sp n S0 g0 w0 (xS (plS n ops (exA E0 C) σ nb kL kH)) nb' a g w → Q .normal a w) (h : xP (plS n ops (exA E0 C) σ nb kL kH) = some ((ps C), nb') := by kernel_rfl) (hle : Nat.ble nb nb' = true := by kernel_rfl) : (Code.region id ops.toArray dr).wp Tryz.prog Q a w := reg_y mo (exA_ok hZ hC) (ps C) kL kH nb' hp hS (fun _ _ _ h => hend h) h hle
theorem rB {n : Nat} {σ : Sg} {S0 : Nat → Prop} {g0 g : G} {w0 w : World} {nb : Nat} {a : Act} {Q : Exit → Act → World → Prop} (C2 : List (Nat × R2)) (C : List (Nat × Rx)) (hC : CsOk Tryz.prog C) (ps : List (Nat × Rx) → List Prop) (kL kH : List Nat) (nb' : Nat) {id : Nat} {dr : Bool} {ops : List Oper} (hp : AllP (ps C)) (hS : Sp n S0 g0 w0 σ nb a g w) (hend : ∀ {a g w}, Sp n S0 g0 w0 (xS (plS n ops (exA2 E0 C C2) σ nb kL kH)) nb' a g w → Q .normal a w) (h : xP (plS n ops (exA2 E0 C C2) σ nb kL kH) = some ((ps C), nb') := by kernel_rfl) (hle : Nat.ble nb nb' = true := by kernel_rfl) : (Code.region id ops.toArray dr).wp Tryz.prog Q a w := reg_y mo (exA2_ok hZ hC) (ps C) kL kH nb' hp hS (fun _ _ _ h => hend h) h hle
theorem rC {n : Nat} {σ : Sg} {S0 : Nat → Prop} {g0 g : G} {w0 w : World} {nb : Nat} {a : Act} {Q : Exit → Act → World → Prop} (C3 : List (Nat × CR × List Nat)) (hC3 : C3Ok Tryz.prog C3) (C2 : List (Nat × R2)) (C : List (Nat × Rx)) (hC : CsOk Tryz.prog C) (ps : List (Nat × Rx) → List Prop) (kL kH : List Nat) (nb' : Nat) {id : Nat} {dr : Bool} {ops : List Oper} (hp : AllP (ps C)) (hS : Sp n S0 g0 w0 σ nb a g w) (hend : ∀ {a g w}, Sp n S0 g0 w0 (xS (plS n ops (exA3 E0 C C2 C3) σ nb kL kH)) nb' a g w → Q .normal a w) (h : xP (plS n ops (exA3 E0 C C2 C3) σ nb kL kH) = some ((ps C), nb') := by kernel_rfl) (hle : Nat.ble nb nb' = true := by kernel_rfl) : (Code.region id ops.toArray dr).wp Tryz.prog Q a w := reg_y mo (exA3_ok hZ hC hC3) (ps C) kL kH nb' hp hS (fun _ _ _ h => hend h) h hle
theorem s0 {n : Nat} {σ : Sg} {S0 : Nat → Prop} {g0 g : G} {w0 w : World} {nb : Nat} {a : Act} {Q : Exit → Act → World → Prop} (kL kH : List Nat) (nb' : Nat) {id : Nat} {dr : Bool} {ops : List Oper} {y : Code} (hS : Sp n S0 g0 w0 σ nb a g w) (hend : ∀ {a g w}, Sp n S0 g0 w0 (xS (plS n ops (exA E0 []) σ nb kL kH)) nb' a g w → y.wp Tryz.prog Q a w) (h : xP (plS n ops (exA E0 []) σ nb kL kH) = some ([], nb') := by kernel_rfl) (hle : Nat.ble nb nb' = true := by kernel_rfl) : (Code.seq (Code.region id ops.toArray dr) y).wp Tryz.prog Q a w := wp_seq (reg_y mo (exA_ok (C := []) hZ (show CsOk Tryz.prog [] from trivial)) [] kL kH nb' trivial hS (fun _ _ _ h => then_n (hend h)) h hle)
theorem sA {n : Nat} {σ : Sg} {S0 : Nat → Prop} {g0 g : G} {w0 w : World} {nb : Nat} {a : Act} {Q : Exit → Act → World → Prop} (C : List (Nat × Rx)) (hC : CsOk Tryz.prog C) (ps : List (Nat × Rx) → List Prop) (kL kH : List Nat) (nb' : Nat) {id : Nat} {dr : Bool} {ops : List Oper} {y : Code} (hp : AllP (ps C)) (hS : Sp n S0 g0 w0 σ nb a g w) (hend : ∀ {a g w}, Sp n S0 g0 w0 (xS (plS n ops (exA E0 C) σ nb kL kH)) nb' a g w → y.wp Tryz.prog Q a w) (h : xP (plS n ops (exA E0 C) σ nb kL kH) = some ((ps C), nb') := by kernel_rfl) (hle : Nat.ble nb nb' = true := by kernel_rfl) : (Code.seq (Code.region id ops.toArray dr) y).wp Tryz.prog Q a w := wp_seq (reg_y mo (exA_ok hZ hC) (ps C) kL kH nb' hp hS (fun _ _ _ h => then_n (hend h)) h hle)
theorem sB {n : Nat} {σ : Sg} {S0 : Nat → Prop} {g0 g : G} {w0 w : World} {nb : Nat} {a : Act} {Q : Exit → Act → World → Prop} (C2 : List (Nat × R2)) (C : List (Nat × Rx)) (hC : CsOk Tryz.prog C) (ps : List (Nat × Rx) → List Prop) (kL kH : List Nat) (nb' : Nat) {id : Nat} {dr : Bool} {ops : List Oper} {y : Code} (hp : AllP (ps C)) (hS : Sp n S0 g0 w0 σ nb a g w) (hend : ∀ {a g w}, Sp n S0 g0 w0 (xS (plS n ops (exA2 E0 C C2) σ nb kL kH)) nb' a g w → y.wp Tryz.prog Q a w) (h : xP (plS n ops (exA2 E0 C C2) σ nb kL kH) = some ((ps C), nb') := by kernel_rfl) (hle : Nat.ble nb nb' = true := by kernel_rfl) : (Code.seq (Code.region id ops.toArray dr) y).wp Tryz.prog Q a w := wp_seq (reg_y mo (exA2_ok hZ hC) (ps C) kL kH nb' hp hS (fun _ _ _ h => then_n (hend h)) h hle)
theorem sC {n : Nat} {σ : Sg} {S0 : Nat → Prop} {g0 g : G} {w0 w : World} {nb : Nat} {a : Act} {Q : Exit → Act → World → Prop} (C3 : List (Nat × CR × List Nat)) (hC3 : C3Ok Tryz.prog C3) (C2 : List (Nat × R2)) (C : List (Nat × Rx)) (hC : CsOk Tryz.prog C) (ps : List (Nat × Rx) → List Prop) (kL kH : List Nat) (nb' : Nat) {id : Nat} {dr : Bool} {ops : List Oper} {y : Code} (hp : AllP (ps C)) (hS : Sp n S0 g0 w0 σ nb a g w) (hend : ∀ {a g w}, Sp n S0 g0 w0 (xS (plS n ops (exA3 E0 C C2 C3) σ nb kL kH)) nb' a g w → y.wp Tryz.prog Q a w) (h : xP (plS n ops (exA3 E0 C C2 C3) σ nb kL kH) = some ((ps C), nb') := by kernel_rfl) (hle : Nat.ble nb nb' = true := by kernel_rfl) : (Code.seq (Code.region id ops.toArray dr) y).wp Tryz.prog Q a w := wp_seq (reg_y mo (exA3_ok hZ hC hC3) (ps C) kL kH nb' hp hS (fun _ _ _ h => then_n (hend h)) h hle)
end
end Go.Sx.Tryz
namespace Go.Mi.Ke
abbrev Ln := BitVec 64
abbrev St := Nat → Ln
def rot (a : Ln) (n : Nat) : Ln := a.rotateLeft n
def par (a : St) (x : Nat) : Ln := a (x % 5) ^^^ a (x % 5 + 5) ^^^ a (x % 5 + 10) ^^^ a (x % 5 + 15) ^^^ a (x % 5 + 20)
def dif (a : St) (x : Nat) : Ln := par a (x + 4) ^^^ rot (par a (x + 1)) 1
def theta (a : St) : St := fun i => a i ^^^ dif a i
def chi (a : St) : St := fun i => a i ^^^ (~~~ a (i - i % 5 + (i + 1) % 5) &&& a (i - i % 5 + (i + 2) % 5))
def px : Nat → Nat × Nat
 | 0 => (1, 0)
 | t + 1 => ((px t).2, (2 * (px t).1 + 3 * (px t).2) % 5)
def ps (t : Nat) : Nat := (px t).1 + 5 * (px t).2
def rhoN (a : St) : Nat → St
 | 0 => a
 | t + 1 => fun i => if i = ps (t + 1) then rot (a (ps t)) ((t + 1) * (t + 2) / 2) else rhoN a t i
def rho (a : St) : St := rhoN a 24
def iota (c : Ln) (a : St) : St := fun i => if i = 0 then a 0 ^^^ c else a i
def round (c : Ln) (a : St) : St := iota c (chi (rho (theta a)))
def enc (a : St) : Nat → Nat
 | 0 => 0
 | n + 1 => enc a n * 2 ^ 64 + (a n).toNat
end Go.Mi.Ke
namespace Go.Sx
open Go.Mi Go.RowKit
def thC (a : Nat → Int) : Nat → Nat → Int
 | 0 => fun _ => 0
 | i + 1 => upd (thC a i) (i % 5) (ixor .u64 (thC a i (i % 5)) (a i))
def rotl (x k : Int) : Int := ior .u64 (ishl .u64 x (iand .u64 (IntKind.wrap .u64 k) 63)) (ishr .u64 x (isub .u64 64 (iand .u64 (IntKind.wrap .u64 k) 63)))
def thA (a c : Nat → Int) : Nat → Nat → Int
 | 0 => a
 | i + 1 => upd (thA a c i) i (ixor .u64 (thA a c i i) (ixor .u64 (c ((i % 5 + 4) % 5)) (rotl (c ((i % 5 + 1) % 5)) 1)))
def theta (a : Nat → Int) : Nat → Int := thA a (thC a 25) 25
def rhoA (a : Nat → Int) : Nat → Nat → Int
 | 0 => a
 | t + 1 => upd (rhoA a t) ((Ke.px (t + 1)).1 + 5 * (Ke.px (t + 1)).2) (rotl (a ((Ke.px t).1 + 5 * (Ke.px t).2)) (iquo .i64 (imul .i64 ((t + 1 : Nat) : Int) ((t + 2 : Nat) : Int)) 2))
def rho (a : Nat → Int) : Nat → Int := rhoA a 24
def chiA (a : Nat → Int) : Nat → Nat → Int
 | 0 => a
 | i + 1 => upd (chiA a i) i (ixor .u64 (chiA a i i) (iand .u64 (inot .u64 (a (i - i % 5 + (i + 1) % 5))) (a (i - i % 5 + (i + 2) % 5))))
def chi (a : Nat → Int) : Nat → Int := chiA a 25
end Go.Sx
namespace Go.Sx.Tryz
open Go.Mi Go.RowKit Go.Sx Go.Proofs
noncomputable section
end
end Go.Sx.Tryz
namespace Go.Sx
open Go.Mi Go.RowKit
theorem cat_step (l : List (List Int)) (j : Nat) (h : j < l.length) : (l.take (j + 1)).flatten = (l.take j).flatten ++ l.getD j (rz [.sl (.int .u8)]) := by
 rw [List.take_add_one, List.flatten_append, List.getElem?_eq_getElem h]
 simp [List.getD, List.getElem?_eq_getElem h]
 rfl
theorem cat_len (l : List (List Int)) (j : Nat) (h : j < l.length) : (l.take (j + 1)).flatten.length = (l.take j).flatten.length + (l.getD j (rz [.sl (.int .u8)])).length := by
 rw [cat_step l j h, List.length_append]
theorem flat_take_le (l : List (List Int)) (j : Nat) : (l.take j).flatten.length ≤ l.flatten.length := by
 have h : l.flatten = (l.take j).flatten ++ (l.drop j).flatten := by rw [← List.flatten_append, List.take_append_drop]
 rw [h, List.length_append]
 omega
theorem cat_le {l : List (List Int)} {j c : Nat} (h : j < l.length) (hc : l.flatten.length ≤ c) : (l.take j).flatten.length + (l.getD j (rz [.sl (.int .u8)])).length ≤ c := by
 rw [← cat_len l j h]
 exact Nat.le_trans (flat_take_le l _) hc
end Go.Sx
namespace Go.Sx.Tryz
open Go.Mi Go.RowKit Go.Sx Go.Proofs
noncomputable section
def c_grow (n : Nat) : Con := ⟨[.v (.slice none 0 0), vi (n : Int)], [], .sk 0, [(0, .sl 5 [.int .u8] [])]⟩
theorem grow_ok (n : Nat) (h : n ≤ 140737488355328) : ConOk Tryz.prog 187 (c_grow n) := by
 refine conOk_of rfl (nb := 0) Tryz.func187 rfl rfl Tryz.ntmps187 rfl rfl rfl fun g0 w0 ac gs ws hg0 hS => ?_
 have hS := hS.sp
 refine s0 [0, 1, 4] [] 0 hS fun hS => ?_
 refine wp_seq (sA [(1, .ob false)] trivial (fun _ => [(decide ((n : Int) < 0)) = false]) [0, 1, 4, 6] [] 0 ⟨decide_eq_false omm, trivial⟩ hS fun hS => ?_)
 refine cond_f hS ?_
 refine wp_skip (then_n (wp_seq (sA [(6, .oi (n : Int))] trivial (fun _ => [isub .i64 (n : Int) 0 = (n : Int)]) [0, 1, 4] [] 0 ⟨by rw [isub64 omm omm]; omega, trivial⟩ hS fun hS => ?_)))
 refine s0 [0, 1, 4, 16] [] 0 hS fun hS => ?_
 refine if_d ((0 : Int) < (n : Int)) hS (fun h1 => ?_) (fun h1 => ?_)
 ·refine rA [] trivial (fun _ => [bndP none (some 0) none 0 0, (0 : Int) ≤ (n : Int), ([] : List (RT [.int .u8])).length + n ≤ 9223372036854775807, (([] : List (RT [.int .u8])).length + n) * 1 ≤ 140737488355328, (0 : Int) ≤ 0 ∧ (0 : Int) ≤ ([] ++ List.replicate n (0 : Int)).length]) [0, 4] [1] 2 ⟨⟨by simp only [nnI] <;> omega, by simp only [nnI] <;> omega, by simp only [nnI] <;> omega, by simp, by simp only [bl] <;> omega, by simp only [bl] <;> omega, by simp only [bl] <;> omega⟩, by omega, by simp <;> omega, by simp <;> omega, by simp, trivial⟩ hS fun hS => ?_
  refine then_n (s0 [4] [1] 2 hS fun hS => ?_)
  refine wp_ret ?_
  obtain ⟨gs, hS⟩ := hS.rn [(0, 1)] [(4, .sk 0)] [(0, .sl 5 [.int .u8] (([] ++ List.replicate n (0 : Int)).take 0))] 1 hg0
  exact fin_y rfl (.inr rfl) hS [.sk 0] [(0, some (.sl 5 [.int .u8] (([] ++ List.replicate n (0 : Int)).take 0)))] rfl ⟨rfl, trivial⟩
 ·refine wp_skip (then_n (s0 [4] [] 0 hS fun hS => ?_))
  refine wp_ret ?_
  obtain ⟨gs, hS⟩ := hS.nilk 4 5 [.int .u8]
  exact fin_y rfl (.inr rfl) hS [.sk 0] [(0, some (.sl 5 [.int .u8] []))] rfl ⟨rfl, trivial⟩

def c_concat (l : List (List Int)) : Con := ⟨[.ls false [.sl (.int .u8)] l], [], .sk 0, [(0, .sl 5 [.int .u8] l.flatten)]⟩
theorem concat_ok (l : List (List Int)) (h : l.flatten.length ≤ 140737488355328) : ConOk Tryz.prog 161 (c_concat l) := by
 refine conOk_of rfl (nb := 0) Tryz.func161 rfl rfl Tryz.ntmps161 rfl rfl rfl fun g0 w0 ac gs ws hg0 hS => ?_
 have hlen0 : l.length ≤ 9223372036854775807 := hS.len 0 rfl
 have hS := hS.sp
 refine s0 [0, 2] [] 0 hS fun hS => ?_
 refine s0 [0, 2, 3] [] 0 hS fun hS => ?_
 refine wp_seq (s0 [0, 2, 3, 9, 10, 11] [] 0 hS fun hS => ?_)
 refine wp_block (loop_y (ι := Nat × Nat) hg0 hS (fun z_ => match z_ with | (i, c) => l.length - i) (fun z_ => match z_ with | (i, c) => [(0, .ls false [.sl (.int .u8)] l), (2, .v (.slice none 0 0)), (3, vi ((c : Nat) : Int)), (9, .ls false [.sl (.int .u8)] l), (10, vi ((l.length : Nat) : Int)), (11, vi ((i : Nat) : Int))]) (fun z_ => match z_ with | (i, c) => []) (fun z_ => match z_ with | (i, c) => (i ≤ l.length) ∧ (c = (l.take i).flatten.length) ∧ True) 0 (0, 0) [] ⟨omm, rfl, trivial⟩ ?_)
 rintro ⟨i, c⟩ ac gs ws ⟨hi, hc, _⟩ hS
 refine s0 [0, 2, 3, 9, 10, 11, 12] [] 0 hS fun hS => ?_
 refine wp_seq ?_
 refine if_d ((i : Int) < ((l.length : Nat) : Int)) hS (fun h1 => ?_) (fun h1 => ?_)
 ·refine wp_skip (then_n (wp_seq (wp_block (sA [] trivial (fun _ => [(0 : Int) ≤ (i : Int) ∧ (i : Int) < ((l.length : Nat) : Int)]) [0, 2, 3, 5, 9, 10, 11] [] 0 ⟨by omega, trivial⟩ hS fun hS => ?_))))
  refine wp_seq ?_
  have hb := cat_le (l := l) (j := i) omm h
  rw [← hc] at hb
  refine rA [(3, .oi ((c + ((l.getD i (rz [.sl (.int .u8)])).length) : Nat) : Int))] trivial (fun _ => [iadd .i64 (c : Int) (((l.getD i (rz [.sl (.int .u8)])).length : Nat) : Int) = ((c + ((l.getD i (rz [.sl (.int .u8)])).length) : Nat) : Int)]) [0, 2, 3, 9, 10, 11] [] 0 ⟨by rw [iadd64 omm omm]; omega, trivial⟩ hS fun hS => ?_
  refine then_n (sA [(1, .ob false)] trivial (fun _ => [(decide (((c + ((l.getD i (rz [.sl (.int .u8)])).length) : Nat) : Int) < 0)) = false]) [0, 2, 3, 9, 10, 11, 20] [] 0 ⟨decide_eq_false omm, trivial⟩ hS fun hS => ?_)
  refine cond_f hS ?_
  refine wp_skip (block_n (then_n (rA [(0, .oi ((i + 1 : Nat) : Int))] trivial (fun _ => [iadd .i64 (i : Int) 1 = ((i + 1 : Nat) : Int)]) [0, 2, 3, 9, 10, 11] [] 0 ⟨by rw [iadd64 omm omm]; omega, trivial⟩ hS fun hS => ?_)))
  refine then_n ?_
  exact next_y hg0 hS (s := (i, c)) (i + 1, c + ((l.getD i (rz [.sl (.int .u8)])).length)) [] (show l.length - (i + 1) < l.length - i from by omega) ⟨omm, (by rw [cat_len l i omm, ← hc]), trivial⟩
 ·have hScur := hS
  obtain rfl : l.length = i := by omega
  obtain rfl : l.flatten.length = c := Eq.symm (by rw [hc, List.take_length])
  have hS := hScur
  clear hScur
  refine wp_exit (then_exit (then_exit (block_exit (then_n (sA [(1, .call ⟨187, (c_grow l.flatten.length), [], [(0, 0)]⟩)] ⟨grow_ok _ omm, trivial⟩ (fun C => [ndC C 1]) [0, 2, 6] [0] 1 ⟨rfl, trivial⟩ hS fun hS => ?_)))))
  refine wp_seq (s0 [2, 6, 25, 26, 27] [0] 1 hS fun hS => ?_)
  refine wp_block (loop_y (ι := Nat × (List Int)) hg0 hS (fun z_ => match z_ with | (j, o) => l.length - j) (fun z_ => match z_ with | (j, o) => [(2, .v (.slice none 0 0)), (6, .sk 0), (25, .ls false [.sl (.int .u8)] l), (26, vi ((l.length : Nat) : Int)), (27, vi ((j : Nat) : Int))]) (fun z_ => match z_ with | (j, o) => [(0, .sl 5 [.int .u8] o)]) (fun z_ => match z_ with | (j, o) => (j ≤ l.length) ∧ (o = (l.take j).flatten) ∧ True) 1 (0, []) [(0, 0)] ⟨omm, rfl, trivial⟩ ?_)
  rintro ⟨j, o⟩ ac gs ws ⟨hj, ho, _⟩ hS
  refine s0 [2, 6, 25, 26, 27, 28] [0] 1 hS fun hS => ?_
  refine wp_seq ?_
  refine if_d ((j : Int) < ((l.length : Nat) : Int)) hS (fun h2 => ?_) (fun h2 => ?_)
  ·refine wp_skip (then_n (wp_seq (wp_block (sA [] trivial (fun _ => [(0 : Int) ≤ (j : Int) ∧ (j : Int) < ((l.length : Nat) : Int)]) [2, 6, 8, 25, 26, 27] [0] 1 ⟨by omega, trivial⟩ hS fun hS => ?_))))
   have hb := cat_le (l := l) (j := j) omm h
   rw [← ho] at hb
   refine rA [] trivial (fun _ => [o.length + (l.getD j (rz [.sl (.int .u8)])).length ≤ 9223372036854775807, (o.length + (l.getD j (rz [.sl (.int .u8)])).length) * 1 ≤ 140737488355328]) [2, 6, 25, 26, 27] [1] 2 ⟨by omega, by omega, trivial⟩ hS fun hS => ?_
   refine block_n (then_n (rA [(0, .oi ((j + 1 : Nat) : Int))] trivial (fun _ => [iadd .i64 (j : Int) 1 = ((j + 1 : Nat) : Int)]) [2, 6, 25, 26, 27] [1] 2 ⟨by rw [iadd64 omm omm]; omega, trivial⟩ hS fun hS => ?_))
   refine then_n ?_
   exact next_y hg0 hS (s := (j, o)) (j + 1, o ++ (l.getD j (rz [.sl (.int .u8)]))) [(0, 1)] (show l.length - (j + 1) < l.length - j from by omega) ⟨omm, (by rw [cat_step l j omm, ← ho]), trivial⟩
  ·have hScur := hS
   obtain rfl : l.length = j := by omega
   obtain rfl : l.flatten = o := Eq.symm (by rw [ho, List.take_length])
   have hS := hScur
   clear hScur
   refine wp_exit (then_exit (then_exit (block_exit (then_n (s0 [2] [0] 1 hS fun hS => ?_)))))
   refine wp_ret ?_
   exact fin_y rfl (.inr rfl) hS [.sk 0] [(0, some (.sl 5 [.int .u8] l.flatten))] rfl ⟨rfl, trivial⟩

def c_cat (l : List (List Int)) : Con := ⟨[.ls false [.sl (.int .u8)] l], [], .sk 0, [(0, .sl 5 [.int .u8] l.flatten)]⟩
theorem cat_ok (l : List (List Int)) (h : l.flatten.length ≤ 140737488355328) : ConOk Tryz.prog 154 (c_cat l) := by
 refine conOk_of rfl (nb := 0) Tryz.func154 rfl rfl Tryz.ntmps154 rfl rfl rfl fun g0 w0 ac gs ws hg0 hS => ?_
 have hlen0 : l.length ≤ 9223372036854775807 := hS.len 0 rfl
 have hS := hS.sp
 refine s0 [0, 2] [] 0 hS fun hS => ?_
 refine sA [(1, .call ⟨161, (c_concat l), [], [(0, 0)]⟩)] ⟨concat_ok _ (by first | omega | (simp only [List.flatten_cons, List.flatten_nil, List.length_append, List.length_cons, List.length_nil, List.length_take, List.length_drop, List.length_replicate] <;> omega) | (simp <;> omega)), trivial⟩ (fun C => [ndC C 1]) [2] [0] 1 ⟨rfl, trivial⟩ hS fun hS => ?_
 refine wp_ret ?_
 exact fin_y rfl (.inr rfl) hS [.sk 0] [(0, some (.sl 5 [.int .u8] l.flatten))] rfl ⟨rfl, trivial⟩

end
end Go.Sx.Tryz
namespace Go.Sx.Tryz
open Go.Mi Go.RowKit Go.Sx Go.Proofs
noncomputable section
end
end Go.Sx.Tryz
namespace Go.Sx.Tryz
open Go.Mi Go.RowKit Go.Sx Go.Proofs
noncomputable section
end
end Go.Sx.Tryz
namespace Go.Sx.Tryz
open Go.Mi Go.RowKit Go.Sx Go.Proofs
noncomputable section
end
end Go.Sx.Tryz
namespace Go.Sx.Tryz
open Go.Mi Go.RowKit Go.Sx Go.Proofs
noncomputable section
end
end Go.Sx.Tryz
namespace Go.Sx
open Go.Mi Go.RowKit
theorem wrap64 (x : Int) : IntKind.wrap .u64 x = x % 18446744073709551616 := by
 simp [IntKind.wrap, IntKind.bits, IntKind.signed]
theorem wrap64_rg (x : Int) : 0 ≤ IntKind.wrap .u64 x ∧ IntKind.wrap .u64 x < 18446744073709551616 := by rw [wrap64]; omega
theorem ior_rg (p q : Int) : 0 ≤ ior .u64 p q ∧ ior .u64 p q < 18446744073709551616 := wrap64_rg _
end Go.Sx
namespace Go.Sx
open Go.Mi Go.RowKit
def Bt (f : Nat → Int) (i : Nat) : Int := IntKind.wrap .u8 (ishr .u64 (f (i / 8)) ((8 * (i % 8) : Nat) : Int))
def bts (f : Nat → Int) (a n : Nat) : List Int := (List.range n).map fun i => Bt f (a + i)
def blk (f : Nat → Int) : List Int := bts f 0 168
def acc1 (x : Int) (s : (Nat → Int) × Nat) : (Nat → Int) × Nat := if x < 3329 then (if s.2 < 256 then (upd s.1 s.2 x, s.2 + 1) else s) else s
def ux1 (a b : Int) : Int := ior .u16 (IntKind.wrap .u16 a) (ishl .u16 (IntKind.wrap .u16 (iand .u8 b 15)) 8)
def ux2 (b c : Int) : Int := ior .u16 (IntKind.wrap .u16 (ishr .u8 b 4)) (ishl .u16 (IntKind.wrap .u16 c) 4)
def acc : List Int → (Nat → Int) × Nat → (Nat → Int) × Nat
 | a :: b :: c :: r, s => acc r (acc1 (ux2 b c) (acc1 (ux1 a b) s))
 | _, s => s
end Go.Sx
namespace Go.Sx.Tryz
open Go.Mi Go.RowKit Go.Sx Go.Proofs
noncomputable section
end
end Go.Sx.Tryz
namespace Go.Sx.Tryz
open Go.Mi Go.RowKit Go.Sx Go.Proofs
noncomputable section
end
end Go.Sx.Tryz
namespace Go.Sx.Tryz
open Go.Mi Go.RowKit Go.Sx Go.Proofs
noncomputable section
theorem eq_no1 {xs ys : List Int} (h : ¬ ((xs.length : Nat) : Int) = ((ys.length : Nat) : Int)) : decide (xs = ys) = false := decide_eq_false fun e => h (by rw [e])
theorem eq_no2 {xs ys : List Int} {i : Nat} (h : ¬ xs.getD i 0 = ys.getD i 0) : decide (xs = ys) = false := decide_eq_false fun e => h (by rw [e])
theorem eq_yes {xs ys : List Int} (hl : ((xs.length : Nat) : Int) = ((ys.length : Nat) : Int)) (h : ∀ j, j < xs.length → xs.getD j 0 = ys.getD j 0) : decide (xs = ys) = true := decide_eq_true (by
 refine List.ext_getElem omm fun i h1 h2 => ?_
 have := h i h1
 rwa [List.getD_eq_getElem?_getD, List.getD_eq_getElem?_getD, List.getElem?_eq_getElem h1, List.getElem?_eq_getElem h2] at this)
def c_sequal (xs ys : List Int) : Con := ⟨[lb xs, lb ys], [], .v (.bool (decide (xs = ys))), []⟩
theorem sequal_ok (xs ys : List Int) : ConOk Tryz.prog 67 (c_sequal xs ys) := by
 refine conOk_of rfl (nb := 0) Tryz.func67 rfl rfl Tryz.ntmps67 rfl rfl rfl fun g0 w0 ac gs ws hg0 hS => ?_
 have hlen0 : xs.length ≤ 9223372036854775807 := hS.len 0 rfl
 have hlen1 : ys.length ≤ 9223372036854775807 := hS.len 1 rfl
 have hS := hS.sp
 refine s0 [0, 1, 4] [] 0 hS fun hS => ?_
 refine wp_seq (s0 [0, 1, 4, 10] [] 0 hS fun hS => ?_)
 refine if_n (((xs.length : Nat) : Int) = ((ys.length : Nat) : Int)) hS (fun h1 => ?_) (fun h1 => ?_)
 ·refine s0 [0, 1, 4] [] 0 hS fun hS => ?_
  refine wp_ret (then_ret ?_)
  exact fin_y rfl (.inr rfl) hS [.v (.bool false)] [] (by show weak _ (.v (.bool (decide (xs = ys)))) = .v (.bool (decide (xs = ys))); rw [eq_no1 h1]; rfl) trivial
 ·refine wp_skip (then_n (wp_seq (s0 [0, 1, 4, 12, 13] [] 0 hS fun hS => ?_)))
  refine wp_block (loop_y (ι := Nat) hg0 hS (fun i => xs.length - i) (fun i => [(0, lb xs), (1, lb ys), (12, vi ((xs.length : Nat) : Int)), (13, vi ((i : Nat) : Int))]) (fun i => []) (fun i => (i ≤ xs.length) ∧ (∀ j, j < i → xs.getD j 0 = ys.getD j 0) ∧ True) 0 0 [] ⟨omm, (fun j h => absurd h (Nat.not_lt_zero j)), trivial⟩ ?_)
  rintro i ac gs ws ⟨hi, pm, _⟩ hS
  refine s0 [0, 1, 12, 13, 14] [] 0 hS fun hS => ?_
  refine wp_seq ?_
  refine if_d ((i : Int) < ((xs.length : Nat) : Int)) hS (fun h2 => ?_) (fun h2 => ?_)
  ·refine wp_skip (then_n (wp_seq (wp_block (s0 [0, 1, 5, 12, 13] [] 0 hS fun hS => ?_))))
   refine sA [] trivial (fun _ => [(0 : Int) ≤ (i : Int) ∧ (i : Int) < ((xs.length : Nat) : Int), (0 : Int) ≤ (i : Int) ∧ (i : Int) < ((ys.length : Nat) : Int)]) [0, 1, 12, 13, 24] [] 0 ⟨by omega, by omega, trivial⟩ hS fun hS => ?_
   refine if_n ((xs.getD i 0) = (ys.getD i 0)) hS (fun h3 => ?_) (fun h3 => ?_)
   ·refine s0 [0, 1, 4, 12, 13] [] 0 hS fun hS => ?_
    refine wp_ret (block_ret (then_ret (then_ret (block_ret (then_ret ?_)))))
    exact fin_y rfl (.inr rfl) hS [.v (.bool false)] [] (by show weak _ (.v (.bool (decide (xs = ys)))) = .v (.bool (decide (xs = ys))); rw [eq_no2 h3]; rfl) trivial
   ·refine wp_skip (block_n (then_n (rA [(0, .oi ((i + 1 : Nat) : Int))] trivial (fun _ => [iadd .i64 (i : Int) 1 = ((i + 1 : Nat) : Int)]) [0, 1, 12, 13] [] 0 ⟨by rw [iadd64 omm omm]; omega, trivial⟩ hS fun hS => ?_)))
    refine then_n ?_
    exact next_y hg0 hS (s := (i)) (i + 1) [] (show xs.length - (i + 1) < xs.length - i from by omega) ⟨omm, (lst_next pm asm), trivial⟩
  ·have hScur := hS
   obtain rfl : xs.length = i := by omega
   have hS := hScur
   clear hScur
   refine wp_exit (then_exit (then_exit (block_exit (then_n (s0 [4] [] 0 hS fun hS => ?_)))))
   refine wp_ret ?_
   exact fin_y rfl (.inr rfl) hS [.v (.bool true)] [] (by show weak _ (.v (.bool (decide (xs = ys)))) = .v (.bool (decide (xs = ys))); rw [eq_yes h1 pm]; rfl) trivial

def c_equal (xs ys : List Int) : Con := ⟨[lb xs, lb ys], [], .v (.bool (decide (xs = ys))), []⟩
theorem equal_ok (xs ys : List Int) : ConOk Tryz.prog 37 (c_equal xs ys) := by
 refine conOk_of rfl (nb := 0) Tryz.func37 rfl rfl Tryz.ntmps37 rfl rfl rfl fun g0 w0 ac gs ws hg0 hS => ?_
 have hlen0 : xs.length ≤ 9223372036854775807 := hS.len 0 rfl
 have hlen1 : ys.length ≤ 9223372036854775807 := hS.len 1 rfl
 have hS := hS.sp
 refine s0 [0, 1, 4] [] 0 hS fun hS => ?_
 refine sA [(2, .call ⟨67, (c_sequal xs ys), [], []⟩)] ⟨sequal_ok _ _, trivial⟩ (fun C => [ndC C 2]) [4] [] 0 ⟨rfl, trivial⟩ hS fun hS => ?_
 refine wp_ret ?_
 exact fin_y rfl (.inr rfl) hS [.v (.bool (decide (xs = ys)))] [] rfl trivial

end
end Go.Sx.Tryz
namespace Go.Sx.Tryz
open Go.Mi Go.RowKit Go.Sx Go.Proofs
noncomputable section
end
end Go.Sx.Tryz
namespace Go.Sx
open Go.Mi Go.RowKit
theorem wrap_u16m (x : Int) : IntKind.wrap .u16 x = x % 65536 := by
 simp [IntKind.wrap, IntKind.bits, IntKind.signed]
theorem ofI8 {a : Int} (ha : 0 ≤ a ∧ a < 256) : (BitVec.ofInt 8 a).toNat = a.toNat := by rw [BitVec.toNat_ofInt]; omega
theorem fdiv_nat {a : Int} (ha : 0 ≤ a) (n : Nat) : a.fdiv (2 ^ n) = ((a.toNat >>> n : Nat) : Int) := by
 obtain ⟨m, rfl⟩ := Int.eq_ofNat_of_zero_le ha
 rw [Int.fdiv_eq_ediv_of_nonneg _ (Int.pow_nonneg (by decide)), show (2 : Int) ^ n = ((2 ^ n : Nat) : Int) by simp, Nat.shiftRight_eq_div_pow]
 rfl
theorem shr8 {a : Int} (ha : 0 ≤ a) {n : Nat} (hn : n ≤ 8) : ishr .u8 a ((n : Nat) : Int) = ((a.toNat >>> n : Nat) : Int) := by
 unfold ishr
 rw [show min ((n : Nat) : Int).toNat (IntKind.bits .u8) = n by simp [IntKind.bits]; omega, fdiv_nat ha]
def By (o : List Int) : Prop := ∀ x ∈ o, 0 ≤ x ∧ x < 256
theorem By.at {o : List Int} (h : By o) (i : Nat) : 0 ≤ o.getD i 0 ∧ o.getD i 0 < 256 := by
 rw [List.getD_eq_getElem?_getD]
 cases e : o[i]? with
 | none => simp
 | some x => exact h x (List.mem_of_getElem? e)
end Go.Sx
namespace Go.Sx.Tryz
open Go.Mi Go.RowKit Go.Sx Go.Proofs
noncomputable section
end
end Go.Sx.Tryz
namespace Go.Sx.Tryz
open Go.Mi Go.RowKit Go.Sx Go.Proofs
noncomputable section
def c_clone (xs : List Int) : Con := ⟨[lb xs], [], lb xs, []⟩
theorem clone_ok (xs : List Int) (h : xs.length ≤ 100000000000000) : ConOk Tryz.prog 81 (c_clone xs) := by
 refine conOk_of rfl (nb := 0) Tryz.func81 rfl rfl Tryz.ntmps81 rfl rfl rfl fun g0 w0 ac gs ws hg0 hS => ?_
 have hlen0 : xs.length ≤ 9223372036854775807 := hS.len 0 rfl
 have hS := hS.sp
 refine s0 [0, 2] [] 0 hS fun hS => ?_
 refine wp_seq (wp_seq ?_)
 rcases hS.nilor 0 [.int .u8] xs with ⟨hn1, hS⟩ | hS
 ·subst hn1
  refine r0 [0, 2, 4] [] 0 hS fun hS => ?_
  refine then_n (cond_t hS ?_)
  refine s0 [0, 2] [] 0 hS fun hS => ?_
  refine wp_ret (then_ret ?_)
  exact fin_y rfl (.inr rfl) hS [.v (.slice none 0 0)] [] rfl trivial
 ·refine r0 [0, 2, 4] [] 0 hS fun hS => ?_
  refine then_n (cond_f hS ?_)
  refine wp_skip (then_n (sA [(0, .own)] trivial (fun _ => [([] : List (RT [.int .u8])).length + xs.length ≤ 9223372036854775807, (([] : List (RT [.int .u8])).length + xs.length) * 1 ≤ 140737488355328]) [2] [1] 2 ⟨by simp <;> omega, by simp <;> omega, trivial⟩ hS fun hS => ?_))
  refine wp_ret ?_
  obtain ⟨gs, hS⟩ := hS.fz 1
  exact fin_y rfl (.inr rfl) hS [lb ([] ++ xs)] [] rfl trivial

def rfixed_kv (xs : List Int) (n : Nat) : Bool := if ((xs.length : Nat) : Int) < (n : Int) then false else true
def rfixed_k (xs : List Int) (n : Nat) : Bool := shut (rfixed_kv xs n)
theorem rfixed_ke (xs : List Int) (n : Nat) : rfixed_k xs n = rfixed_kv xs n := shut_eq _
def c_rfixed (xs : List Int) (n : Nat) : Con := ⟨[.cp 0 0, vi (n : Int)], [(0, .ob 188 (chain [lb xs]))], lb (xs.take n), [(0, .ob 188 (chain [lb (xs.drop n)]))]⟩
theorem rfixed_ok (xs : List Int) (n : Nat) (h : xs.length ≤ 100000000000000) (hk : rfixed_k xs n = true) : ConOk Tryz.prog 91 (c_rfixed xs n) := by
 refine conOk_of rfl (nb := 1) Tryz.func91 rfl rfl Tryz.ntmps91 rfl rfl rfl fun g0 w0 ac gs ws hg0 hS => ?_
 have hS := hS.sp
 refine s0 [0, 1, 4] [0] 1 hS fun hS => ?_
 refine wp_seq (sA [(1, .ob false)] trivial (fun _ => [(decide ((n : Int) < 0)) = false]) [0, 1, 4, 28] [0] 1 ⟨decide_eq_false omm, trivial⟩ hS fun hS => ?_)
 refine if_d (((xs.length : Nat) : Int) < (n : Int)) hS (fun h1 => ?_) (fun h1 => ?_)
 ·have hK : rfixed_k xs n = false := (rfixed_ke xs n).trans (if_pos h1)
  rw [hK] at hk
  cases hk
 ·refine wp_skip (then_n (wp_seq (s0 [0, 1, 4, 31] [0] 1 hS fun hS => ?_)))
  refine cond_f hS ?_
  refine wp_skip (then_n (sA [(6, .call ⟨81, (c_clone (xs.take n)), [], []⟩)] ⟨clone_ok _ lnn, trivial⟩ (fun C => [bndP none (some (n : Int)) none xs.length xs.length, ndC C 6]) [0, 1, 4, 5] [0] 1 ⟨⟨by simp only [nnI] <;> omega, by simp only [nnI] <;> omega, by simp only [nnI] <;> omega, by simp, by simp only [bl] <;> omega, by simp only [bl] <;> omega, by simp only [bl] <;> omega⟩, rfl, trivial⟩ hS fun hS => ?_))
  refine sA [] trivial (fun _ => [bndP (some (n : Int)) none none xs.length xs.length]) [4, 5] [0] 1 ⟨⟨by simp only [nnI] <;> omega, by simp only [nnI] <;> omega, by simp only [nnI] <;> omega, by simp, by simp only [bl] <;> omega, by simp only [bl] <;> omega, by simp only [bl] <;> omega⟩, trivial⟩ hS fun hS => ?_
  refine s0 [4] [0] 1 hS fun hS => ?_
  refine wp_ret ?_
  exact fin_y rfl (.inr rfl) hS [lb (xs.take n)] [(0, some (.ob 188 (chain [lb (xs.drop n)])))] rfl ⟨rfl, trivial⟩
def c_rfixed_p (xs : List Int) (n : Nat) : Con := ⟨[.cp 0 0, vi (n : Int)], [(0, .ob 188 (chain [lb xs]))], .v (.iface 44 (.int .i64 2)), []⟩
theorem rfixed_p_ok (xs : List Int) (n : Nat) (h : xs.length ≤ 100000000000000) (hk : rfixed_k xs n = false) : PanOk Tryz.prog 91 (c_rfixed_p xs n) := by
 refine conOk_ofE rfl (nb := 1) Tryz.func91 rfl rfl Tryz.ntmps91 rfl rfl rfl fun g0 w0 ac gs ws hg0 hS => ?_
 have hS := hS.sp
 refine s0 [0, 1, 4] [0] 1 hS fun hS => ?_
 refine wp_seq (sA [(1, .ob false)] trivial (fun _ => [(decide ((n : Int) < 0)) = false]) [0, 1, 4, 28] [0] 1 ⟨decide_eq_false omm, trivial⟩ hS fun hS => ?_)
 refine if_d (((xs.length : Nat) : Int) < (n : Int)) hS (fun h1 => ?_) (fun h1 => ?_)
 ·refine region_p (E := E0) mo hZ [] trivial none (fun r hr => by cases hr)  1 0 (fun _ => []) (.v (.iface 44 (.int .i64 2))) (by kernel_rfl) trivial hS.st fun ac gs ws pv hS hpv => ?_
  refine then_pan ?_
  exact fin_p rfl hS hpv rfl rfl
 ·refine wp_skip (then_n (wp_seq (s0 [0, 1, 4, 31] [0] 1 hS fun hS => ?_)))
  refine cond_f hS ?_
  refine wp_skip (then_n (sA [(6, .call ⟨81, (c_clone (xs.take n)), [], []⟩)] ⟨clone_ok _ lnn, trivial⟩ (fun C => [bndP none (some (n : Int)) none xs.length xs.length, ndC C 6]) [0, 1, 4, 5] [0] 1 ⟨⟨by simp only [nnI] <;> omega, by simp only [nnI] <;> omega, by simp only [nnI] <;> omega, by simp, by simp only [bl] <;> omega, by simp only [bl] <;> omega, by simp only [bl] <;> omega⟩, rfl, trivial⟩ hS fun hS => ?_))
  refine sA [] trivial (fun _ => [bndP (some (n : Int)) none none xs.length xs.length]) [4, 5] [0] 1 ⟨⟨by simp only [nnI] <;> omega, by simp only [nnI] <;> omega, by simp only [nnI] <;> omega, by simp, by simp only [bl] <;> omega, by simp only [bl] <;> omega, by simp only [bl] <;> omega⟩, trivial⟩ hS fun hS => ?_
  refine s0 [4] [0] 1 hS fun hS => ?_
  refine wp_ret ?_
  have hK : rfixed_k xs n = true := (rfixed_ke xs n).trans (if_neg h1)
  rw [hK] at hk
  cases hk

theorem rfixed_y {xs : List Int} {n : Nat} (h : rfixed_k xs n = true) : n ≤ xs.length := by
 rw [rfixed_ke] at h
 unfold rfixed_kv at h
 by_cases h2 : ((xs.length : Nat) : Int) < (n : Int)
 ·simp only [h2, if_true] at h
  cases h
 ·omega
theorem rfixed_n {xs : List Int} {n : Nat} (h : ¬ rfixed_k xs n = true) : xs.length < n := by
 rw [rfixed_ke] at h
 unfold rfixed_kv at h
 by_cases h2 : ((xs.length : Nat) : Int) < (n : Int)
 ·omega
 ·exact absurd (by first | (rw [if_neg omm, if_neg h2]) | rw [if_neg h2]) h
end
end Go.Sx.Tryz
namespace Go.Sx.Tryz
open Go.Mi Go.RowKit Go.Sx Go.Proofs
noncomputable section
def numA : Nat → Nat → Int → List Int → Option (Int × List Int)
 | 0, _, _, _ => none
 | _ + 1, _, _, [] => none
 | k + 1, n, v, c :: r => if (128 : Int) ≤ c then numA k (n + 1) (ior .u64 v (ishl .u64 (IntKind.wrap .u64 (iandn .u8 c 128)) ((7 * n : Nat) : Int))) r
  else if n = 9 ∧ (1 : Int) < c then none else if 0 < n ∧ c = 0 then none else some (ior .u64 v (ishl .u64 (IntKind.wrap .u64 (iandn .u8 c 128)) ((7 * n : Nat) : Int)), r)
def numM (xs : List Int) : Option (Int × List Int) := numA 10 0 0 xs
def numB (xs : List Int) : Bool := (numM xs).isSome
def numV (xs : List Int) : Int × List Int := (numM xs).getD (0, [])
theorem numA_nil (k n : Nat) (v : Int) {xs : List Int} (h : xs.length < 1) : numA k n v xs = none := by
 have : xs = [] := List.eq_nil_of_length_eq_zero omm
 subst this
 cases k <;> rfl
theorem numA_s {i : Nat} (hi : i < 10) (v : Int) {xs : List Int} (h : 1 ≤ xs.length) : numA (10 - i) i v xs = (if (128 : Int) ≤ (xs.take 1).getD 0 0 then numA (10 - (i + 1)) (i + 1) (ior .u64 v (ishl .u64 (IntKind.wrap .u64 (iandn .u8 ((xs.take 1).getD 0 0) 128)) ((7 * i : Nat) : Int))) (xs.drop 1)
  else if i = 9 ∧ (1 : Int) < (xs.take 1).getD 0 0 then none else if 0 < i ∧ (xs.take 1).getD 0 0 = 0 then none else some (ior .u64 v (ishl .u64 (IntKind.wrap .u64 (iandn .u8 ((xs.take 1).getD 0 0) 128)) ((7 * i : Nat) : Int)), xs.drop 1)) := by
 obtain ⟨k, hk⟩ : ∃ k, 10 - i = k + 1 := ⟨9 - i, by omega⟩
 rw [hk, show 10 - (i + 1) = k by omega]
 match xs, h with
 | c :: r, _ => rfl
theorem num_no {xs : List Int} (h : numM xs = none) : numB xs = false := by unfold numB; rw [h]; rfl
theorem num_is {xs : List Int} {z : Int × List Int} (h : numM xs = some z) : numB xs = true := by unfold numB; rw [h]; rfl
theorem num_v {xs : List Int} {z : Int × List Int} (h : numM xs = some z) : numV xs = z := by unfold numV; rw [h]; rfl
def c_num (xs : List Int) : Con := ⟨[.cp 0 0], [(0, .ob 188 (chain [lb xs]))], .v (.int .u64 ((numV xs).1)), [(0, .ob 188 (chain [lb ((numV xs).2)]))]⟩
theorem num_ok (xs : List Int) (h : xs.length ≤ 100000000000000) (hk : numB xs = true) : ConOk Tryz.prog 126 (c_num xs) := by
 refine conOk_of rfl (nb := 1) Tryz.func126 rfl rfl Tryz.ntmps126 rfl rfl rfl fun g0 w0 ac gs ws hg0 hS => ?_
 have hS := hS.sp
 refine s0 [0, 2] [0] 1 hS fun hS => ?_
 refine wp_seq (s0 [0, 2, 5] [0] 1 hS fun hS => ?_)
 refine wp_block (loop_y (ι := Nat × Int × (List Int)) hg0 hS (fun z_ => match z_ with | (i, v, ys) => 10 - i) (fun z_ => match z_ with | (i, v, ys) => [(0, .cp 0 0), (2, .v (.int .u64 v)), (5, vi ((i : Nat) : Int))]) (fun z_ => match z_ with | (i, v, ys) => [(0, .ob 188 (chain [lb ys]))]) (fun z_ => match z_ with | (i, v, ys) => (i ≤ 10) ∧ (ys.length ≤ 100000000000000) ∧ (numA (10 - i) i v ys = numM xs) ∧ True) 1 (0, 0, xs) [(0, 0)] ⟨omm, h, rfl, trivial⟩ ?_)
 rintro ⟨i, v, ys⟩ ac gs ws ⟨hi, hly, hq, _⟩ hS
 refine s0 [0, 2, 5, 6] [0] 1 hS fun hS => ?_
 refine wp_seq ?_
 refine if_d ((i : Int) < 10) hS (fun h1 => ?_) (fun h1 => ?_)
 ·refine wp_skip (then_n (wp_seq (wp_block (s0 [0, 2, 3, 5] [0] 1 hS fun hS => ?_))))
  refine wp_seq ?_
  skip
  skip
  by_cases h2 : rfixed_k ys 1 = true
  ·have hl1 := rfixed_y h2
   have hl2 : (ys.take 1).length = 1 := by rw [List.length_take]; omega
   refine rA [(1, .call ⟨91, (c_rfixed ys 1), [(0, 0)], []⟩)] ⟨rfixed_ok _ _ lnn h2, trivial⟩ (fun C => [ndC C 1, (0 : Int) ≤ 0 ∧ 0 < (((ys.take 1).length : Nat) : Int)]) [0, 2, 3, 4, 5] [0] 1 ⟨rfl, by omega, trivial⟩ hS fun hS => ?_
   refine then_n (sA [(5, .oi ((7 * i : Nat) : Int))] trivial (fun _ => [imul .i64 7 (i : Int) = ((7 * i : Nat) : Int), (0 : Int) ≤ ((7 * i : Nat) : Int)]) [0, 2, 3, 4, 5] [0] 1 ⟨by rw [imul64 omm omm]; omega, by omega, trivial⟩ hS fun hS => ?_)
   refine wp_seq (wp_block (s0 [0, 2, 3, 4, 5, 20] [0] 1 hS fun hS => ?_))
   refine if_d ((128 : Int) ≤ ((ys.take 1).getD 0 0)) hS (fun h3 => ?_) (fun h3 => ?_)
   ·refine wp_exit (block_exit_ne (by decide) ?_)
    refine then_exit (block_exit (then_n (rA [(0, .oi ((i + 1 : Nat) : Int))] trivial (fun _ => [iadd .i64 (i : Int) 1 = ((i + 1 : Nat) : Int)]) [0, 2, 5] [0] 1 ⟨by rw [iadd64 omm omm]; omega, trivial⟩ hS fun hS => ?_)))
    refine then_n ?_
    exact next_y hg0 hS (s := (i, v, ys)) (i + 1, (ior .u64 v (ishl .u64 (IntKind.wrap .u64 (iandn .u8 ((ys.take 1).getD 0 0) 128)) ((7 * i : Nat) : Int))), (ys.drop 1)) [(0, 0)] (show 10 - (i + 1) < 10 - i from by omega) ⟨omm, (by rw [List.length_drop]; omega), (hq ▸ ((numA_s omm v omm).trans (if_pos asm)).symm), trivial⟩
   ·refine wp_seq (wp_seq ?_)
    by_cases h4 : (i : Int) = 9
    ·refine rA [(1, .ob true)] trivial (fun _ => [(decide ((i : Int) = 9)) = true]) [0, 2, 3, 4, 5, 23] [0] 1 ⟨decide_eq_true h4, trivial⟩ hS fun hS => ?_
     refine then_n ?_
     refine if_d ((1 : Int) < ((ys.take 1).getD 0 0)) hS (fun h5 => ?_) (fun h5 => ?_)
     ·refine wp_skip (then_n ?_)
      refine if_d ((1 : Int) < ((ys.take 1).getD 0 0)) hS (fun h6 => ?_) (fun h6 => ?_)
      ·have e : numM xs = none := hq.symm.trans (by first | exact numA_nil _ _ _ (rfixed_n asm) | exact rfl | exact (numA_s omm v omm).trans ((if_neg omm).trans (if_pos omm)) | exact (numA_s omm v omm).trans ((if_neg omm).trans ((if_neg omm).trans (if_pos omm))))
       rw [num_no e] at hk
       cases hk
      ·refine wp_skip (block_n (then_n (s0 [0, 2, 5] [0] 1 hS fun hS => ?_)))
       refine wp_ret (block_ret (then_ret (then_ret (block_ret (then_ret ?_)))))
       have e := hq.symm.trans ((numA_s omm v omm).trans ((if_neg omm).trans ((if_neg omm).trans (if_neg omm))))
       have hv := num_v e
       exact fin_y rfl (.inr rfl) hS [.v (.int .u64 (ior .u64 v (ishl .u64 (IntKind.wrap .u64 (iandn .u8 ((ys.take 1).getD 0 0) 128)) ((7 * i : Nat) : Int))))] [(0, some (.ob 188 (chain [lb (ys.drop 1)])))] (by show weak _ (.v (.int .u64 (numV xs).1)) = .v (.int .u64 (numV xs).1); rw [hv]; rfl) (by show H1Ok _ [(0, .ob 188 (chain [lb (numV xs).2]))] true; rw [hv]; exact ⟨rfl, trivial⟩)
     ·by_cases h7 : (0 : Int) < (i : Int)
      ·refine rA [(1, .ob true)] trivial (fun _ => [(decide ((0 : Int) < (i : Int))) = true]) [0, 2, 5, 23] [0] 1 ⟨decide_eq_true h7, trivial⟩ hS fun hS => ?_
       refine then_n ?_
       refine if_d (((ys.take 1).getD 0 0) = 0) hS (fun h8 => ?_) (fun h8 => ?_)
       ·have e : numM xs = none := hq.symm.trans (by first | exact numA_nil _ _ _ (rfixed_n asm) | exact rfl | exact (numA_s omm v omm).trans ((if_neg omm).trans (if_pos omm)) | exact (numA_s omm v omm).trans ((if_neg omm).trans ((if_neg omm).trans (if_pos omm))))
        rw [num_no e] at hk
        cases hk
       ·refine wp_skip (block_n (then_n (s0 [0, 2, 5] [0] 1 hS fun hS => ?_)))
        refine wp_ret (block_ret (then_ret (then_ret (block_ret (then_ret ?_)))))
        have e := hq.symm.trans ((numA_s omm v omm).trans ((if_neg omm).trans ((if_neg omm).trans (if_neg omm))))
        have hv := num_v e
        exact fin_y rfl (.inr rfl) hS [.v (.int .u64 (ior .u64 v (ishl .u64 (IntKind.wrap .u64 (iandn .u8 ((ys.take 1).getD 0 0) 128)) ((7 * i : Nat) : Int))))] [(0, some (.ob 188 (chain [lb (ys.drop 1)])))] (by show weak _ (.v (.int .u64 (numV xs).1)) = .v (.int .u64 (numV xs).1); rw [hv]; rfl) (by show H1Ok _ [(0, .ob 188 (chain [lb (numV xs).2]))] true; rw [hv]; exact ⟨rfl, trivial⟩)
      ·refine rA [(1, .ob false)] trivial (fun _ => [(decide ((0 : Int) < (i : Int))) = false]) [0, 2, 5, 23] [0] 1 ⟨decide_eq_false h7, trivial⟩ hS fun hS => ?_
       refine then_n (cond_f hS ?_)
       refine wp_skip (block_n (then_n (s0 [0, 2, 5] [0] 1 hS fun hS => ?_)))
       refine wp_ret (block_ret (then_ret (then_ret (block_ret (then_ret ?_)))))
       have e := hq.symm.trans ((numA_s omm v omm).trans ((if_neg omm).trans ((if_neg omm).trans (if_neg omm))))
       have hv := num_v e
       exact fin_y rfl (.inr rfl) hS [.v (.int .u64 (ior .u64 v (ishl .u64 (IntKind.wrap .u64 (iandn .u8 ((ys.take 1).getD 0 0) 128)) ((7 * i : Nat) : Int))))] [(0, some (.ob 188 (chain [lb (ys.drop 1)])))] (by show weak _ (.v (.int .u64 (numV xs).1)) = .v (.int .u64 (numV xs).1); rw [hv]; rfl) (by show H1Ok _ [(0, .ob 188 (chain [lb (numV xs).2]))] true; rw [hv]; exact ⟨rfl, trivial⟩)
    ·refine rA [(1, .ob false)] trivial (fun _ => [(decide ((i : Int) = 9)) = false]) [0, 2, 3, 4, 5, 23] [0] 1 ⟨decide_eq_false h4, trivial⟩ hS fun hS => ?_
     refine then_n (cond_f hS ?_)
     by_cases h9 : (0 : Int) < (i : Int)
     ·refine rA [(1, .ob true)] trivial (fun _ => [(decide ((0 : Int) < (i : Int))) = true]) [0, 2, 5, 23] [0] 1 ⟨decide_eq_true h9, trivial⟩ hS fun hS => ?_
      refine then_n ?_
      refine if_d (((ys.take 1).getD 0 0) = 0) hS (fun h10 => ?_) (fun h10 => ?_)
      ·have e : numM xs = none := hq.symm.trans (by first | exact numA_nil _ _ _ (rfixed_n asm) | exact rfl | exact (numA_s omm v omm).trans ((if_neg omm).trans (if_pos omm)) | exact (numA_s omm v omm).trans ((if_neg omm).trans ((if_neg omm).trans (if_pos omm))))
       rw [num_no e] at hk
       cases hk
      ·refine wp_skip (block_n (then_n (s0 [0, 2, 5] [0] 1 hS fun hS => ?_)))
       refine wp_ret (block_ret (then_ret (then_ret (block_ret (then_ret ?_)))))
       have e := hq.symm.trans ((numA_s omm v omm).trans ((if_neg omm).trans ((if_neg omm).trans (if_neg omm))))
       have hv := num_v e
       exact fin_y rfl (.inr rfl) hS [.v (.int .u64 (ior .u64 v (ishl .u64 (IntKind.wrap .u64 (iandn .u8 ((ys.take 1).getD 0 0) 128)) ((7 * i : Nat) : Int))))] [(0, some (.ob 188 (chain [lb (ys.drop 1)])))] (by show weak _ (.v (.int .u64 (numV xs).1)) = .v (.int .u64 (numV xs).1); rw [hv]; rfl) (by show H1Ok _ [(0, .ob 188 (chain [lb (numV xs).2]))] true; rw [hv]; exact ⟨rfl, trivial⟩)
     ·refine rA [(1, .ob false)] trivial (fun _ => [(decide ((0 : Int) < (i : Int))) = false]) [0, 2, 5, 23] [0] 1 ⟨decide_eq_false h9, trivial⟩ hS fun hS => ?_
      refine then_n (cond_f hS ?_)
      refine wp_skip (block_n (then_n (s0 [0, 2, 5] [0] 1 hS fun hS => ?_)))
      refine wp_ret (block_ret (then_ret (then_ret (block_ret (then_ret ?_)))))
      have e := hq.symm.trans ((numA_s omm v omm).trans ((if_neg omm).trans ((if_neg omm).trans (if_neg omm))))
      have hv := num_v e
      exact fin_y rfl (.inr rfl) hS [.v (.int .u64 (ior .u64 v (ishl .u64 (IntKind.wrap .u64 (iandn .u8 ((ys.take 1).getD 0 0) 128)) ((7 * i : Nat) : Int))))] [(0, some (.ob 188 (chain [lb (ys.drop 1)])))] (by show weak _ (.v (.int .u64 (numV xs).1)) = .v (.int .u64 (numV xs).1); rw [hv]; rfl) (by show H1Ok _ [(0, .ob 188 (chain [lb (numV xs).2]))] true; rw [hv]; exact ⟨rfl, trivial⟩)
  ·skip
   skip
   have e : numM xs = none := hq.symm.trans (by first | exact numA_nil _ _ _ (rfixed_n asm) | exact rfl | exact (numA_s omm v omm).trans ((if_neg omm).trans (if_pos omm)) | exact (numA_s omm v omm).trans ((if_neg omm).trans ((if_neg omm).trans (if_pos omm))))
   rw [num_no e] at hk
   cases hk
 ·have hScur := hS
  obtain rfl : 10 = i := by omega
  have hS := hScur
  clear hScur
  refine wp_exit (then_exit (then_exit (block_exit (then_n ?_))))
  have e : numM xs = none := hq.symm.trans (by first | exact numA_nil _ _ _ (rfixed_n asm) | exact rfl | exact (numA_s omm v omm).trans ((if_neg omm).trans (if_pos omm)) | exact (numA_s omm v omm).trans ((if_neg omm).trans ((if_neg omm).trans (if_pos omm))))
  rw [num_no e] at hk
  cases hk

def c_num_p (xs : List Int) : Con := ⟨[.cp 0 0], [(0, .ob 188 (chain [lb xs]))], .v (.iface 44 (.int .i64 2)), []⟩
theorem num_p_ok (xs : List Int) (h : xs.length ≤ 100000000000000) (hk : numB xs = false) : PanOk Tryz.prog 126 (c_num_p xs) := by
 refine conOk_ofE rfl (nb := 1) Tryz.func126 rfl rfl Tryz.ntmps126 rfl rfl rfl fun g0 w0 ac gs ws hg0 hS => ?_
 have hS := hS.sp
 refine s0 [0, 2] [0] 1 hS fun hS => ?_
 refine wp_seq (s0 [0, 2, 5] [0] 1 hS fun hS => ?_)
 refine wp_block (loop_y (ι := Nat × Int × (List Int)) hg0 hS (fun z_ => match z_ with | (i, v, ys) => 10 - i) (fun z_ => match z_ with | (i, v, ys) => [(0, .cp 0 0), (2, .v (.int .u64 v)), (5, vi ((i : Nat) : Int))]) (fun z_ => match z_ with | (i, v, ys) => [(0, .ob 188 (chain [lb ys]))]) (fun z_ => match z_ with | (i, v, ys) => (i ≤ 10) ∧ (ys.length ≤ 100000000000000) ∧ (numA (10 - i) i v ys = numM xs) ∧ True) 1 (0, 0, xs) [(0, 0)] ⟨omm, h, rfl, trivial⟩ ?_)
 rintro ⟨i, v, ys⟩ ac gs ws ⟨hi, hly, hq, _⟩ hS
 refine s0 [0, 2, 5, 6] [0] 1 hS fun hS => ?_
 refine wp_seq ?_
 refine if_d ((i : Int) < 10) hS (fun h1 => ?_) (fun h1 => ?_)
 ·refine wp_skip (then_n (wp_seq (wp_block (s0 [0, 2, 3, 5] [0] 1 hS fun hS => ?_))))
  refine wp_seq ?_
  skip
  skip
  by_cases h2 : rfixed_k ys 1 = true
  ·have hl1 := rfixed_y h2
   have hl2 : (ys.take 1).length = 1 := by rw [List.length_take]; omega
   refine rA [(1, .call ⟨91, (c_rfixed ys 1), [(0, 0)], []⟩)] ⟨rfixed_ok _ _ lnn h2, trivial⟩ (fun C => [ndC C 1, (0 : Int) ≤ 0 ∧ 0 < (((ys.take 1).length : Nat) : Int)]) [0, 2, 3, 4, 5] [0] 1 ⟨rfl, by omega, trivial⟩ hS fun hS => ?_
   refine then_n (sA [(5, .oi ((7 * i : Nat) : Int))] trivial (fun _ => [imul .i64 7 (i : Int) = ((7 * i : Nat) : Int), (0 : Int) ≤ ((7 * i : Nat) : Int)]) [0, 2, 3, 4, 5] [0] 1 ⟨by rw [imul64 omm omm]; omega, by omega, trivial⟩ hS fun hS => ?_)
   refine wp_seq (wp_block (s0 [0, 2, 3, 4, 5, 20] [0] 1 hS fun hS => ?_))
   refine if_d ((128 : Int) ≤ ((ys.take 1).getD 0 0)) hS (fun h3 => ?_) (fun h3 => ?_)
   ·refine wp_exit (block_exit_ne (by decide) ?_)
    refine then_exit (block_exit (then_n (rA [(0, .oi ((i + 1 : Nat) : Int))] trivial (fun _ => [iadd .i64 (i : Int) 1 = ((i + 1 : Nat) : Int)]) [0, 2, 5] [0] 1 ⟨by rw [iadd64 omm omm]; omega, trivial⟩ hS fun hS => ?_)))
    refine then_n ?_
    exact next_y hg0 hS (s := (i, v, ys)) (i + 1, (ior .u64 v (ishl .u64 (IntKind.wrap .u64 (iandn .u8 ((ys.take 1).getD 0 0) 128)) ((7 * i : Nat) : Int))), (ys.drop 1)) [(0, 0)] (show 10 - (i + 1) < 10 - i from by omega) ⟨omm, (by rw [List.length_drop]; omega), (hq ▸ ((numA_s omm v omm).trans (if_pos asm)).symm), trivial⟩
   ·refine wp_seq (wp_seq ?_)
    by_cases h4 : (i : Int) = 9
    ·refine rA [(1, .ob true)] trivial (fun _ => [(decide ((i : Int) = 9)) = true]) [0, 2, 3, 4, 5, 23] [0] 1 ⟨decide_eq_true h4, trivial⟩ hS fun hS => ?_
     refine then_n ?_
     refine if_d ((1 : Int) < ((ys.take 1).getD 0 0)) hS (fun h5 => ?_) (fun h5 => ?_)
     ·refine wp_skip (then_n ?_)
      refine if_d ((1 : Int) < ((ys.take 1).getD 0 0)) hS (fun h6 => ?_) (fun h6 => ?_)
      ·refine region_p (E := E0) mo hZ [] trivial none (fun r hr => by cases hr)  1 0 (fun _ => []) (.v (.iface 44 (.int .i64 2))) (by kernel_rfl) trivial hS.st fun ac gs ws pv hS hpv => ?_
       refine block_pan (then_pan (block_pan (then_pan (then_pan (block_pan (then_pan ?_))))))
       exact fin_p rfl hS hpv rfl rfl
      ·refine wp_skip (block_n (then_n (s0 [0, 2, 5] [0] 1 hS fun hS => ?_)))
       refine wp_ret (block_ret (then_ret (then_ret (block_ret (then_ret ?_)))))
       have e := hq.symm.trans ((numA_s omm v omm).trans ((if_neg omm).trans ((if_neg omm).trans (if_neg omm))))
       rw [num_is e] at hk
       cases hk
     ·by_cases h7 : (0 : Int) < (i : Int)
      ·refine rA [(1, .ob true)] trivial (fun _ => [(decide ((0 : Int) < (i : Int))) = true]) [0, 2, 5, 23] [0] 1 ⟨decide_eq_true h7, trivial⟩ hS fun hS => ?_
       refine then_n ?_
       refine if_d (((ys.take 1).getD 0 0) = 0) hS (fun h8 => ?_) (fun h8 => ?_)
       ·refine region_p (E := E0) mo hZ [] trivial none (fun r hr => by cases hr)  1 0 (fun _ => []) (.v (.iface 44 (.int .i64 2))) (by kernel_rfl) trivial hS.st fun ac gs ws pv hS hpv => ?_
        refine block_pan (then_pan (block_pan (then_pan (then_pan (block_pan (then_pan ?_))))))
        exact fin_p rfl hS hpv rfl rfl
       ·refine wp_skip (block_n (then_n (s0 [0, 2, 5] [0] 1 hS fun hS => ?_)))
        refine wp_ret (block_ret (then_ret (then_ret (block_ret (then_ret ?_)))))
        have e := hq.symm.trans ((numA_s omm v omm).trans ((if_neg omm).trans ((if_neg omm).trans (if_neg omm))))
        rw [num_is e] at hk
        cases hk
      ·refine rA [(1, .ob false)] trivial (fun _ => [(decide ((0 : Int) < (i : Int))) = false]) [0, 2, 5, 23] [0] 1 ⟨decide_eq_false h7, trivial⟩ hS fun hS => ?_
       refine then_n (cond_f hS ?_)
       refine wp_skip (block_n (then_n (s0 [0, 2, 5] [0] 1 hS fun hS => ?_)))
       refine wp_ret (block_ret (then_ret (then_ret (block_ret (then_ret ?_)))))
       have e := hq.symm.trans ((numA_s omm v omm).trans ((if_neg omm).trans ((if_neg omm).trans (if_neg omm))))
       rw [num_is e] at hk
       cases hk
    ·refine rA [(1, .ob false)] trivial (fun _ => [(decide ((i : Int) = 9)) = false]) [0, 2, 3, 4, 5, 23] [0] 1 ⟨decide_eq_false h4, trivial⟩ hS fun hS => ?_
     refine then_n (cond_f hS ?_)
     by_cases h9 : (0 : Int) < (i : Int)
     ·refine rA [(1, .ob true)] trivial (fun _ => [(decide ((0 : Int) < (i : Int))) = true]) [0, 2, 5, 23] [0] 1 ⟨decide_eq_true h9, trivial⟩ hS fun hS => ?_
      refine then_n ?_
      refine if_d (((ys.take 1).getD 0 0) = 0) hS (fun h10 => ?_) (fun h10 => ?_)
      ·refine region_p (E := E0) mo hZ [] trivial none (fun r hr => by cases hr)  1 0 (fun _ => []) (.v (.iface 44 (.int .i64 2))) (by kernel_rfl) trivial hS.st fun ac gs ws pv hS hpv => ?_
       refine block_pan (then_pan (block_pan (then_pan (then_pan (block_pan (then_pan ?_))))))
       exact fin_p rfl hS hpv rfl rfl
      ·refine wp_skip (block_n (then_n (s0 [0, 2, 5] [0] 1 hS fun hS => ?_)))
       refine wp_ret (block_ret (then_ret (then_ret (block_ret (then_ret ?_)))))
       have e := hq.symm.trans ((numA_s omm v omm).trans ((if_neg omm).trans ((if_neg omm).trans (if_neg omm))))
       rw [num_is e] at hk
       cases hk
     ·refine rA [(1, .ob false)] trivial (fun _ => [(decide ((0 : Int) < (i : Int))) = false]) [0, 2, 5, 23] [0] 1 ⟨decide_eq_false h9, trivial⟩ hS fun hS => ?_
      refine then_n (cond_f hS ?_)
      refine wp_skip (block_n (then_n (s0 [0, 2, 5] [0] 1 hS fun hS => ?_)))
      refine wp_ret (block_ret (then_ret (then_ret (block_ret (then_ret ?_)))))
      have e := hq.symm.trans ((numA_s omm v omm).trans ((if_neg omm).trans ((if_neg omm).trans (if_neg omm))))
      rw [num_is e] at hk
      cases hk
  ·skip
   skip
   refine region_p (E := E0) mo hZ [] trivial (some ⟨91, (c_rfixed_p ys 1), [(0, 0)], []⟩) (fun r hr => by cases hr; exact rfixed_p_ok ys 1 lnn (bne_k h2))  1 28 (fun _ => [nd [.cp 0 0, vi 1] [some (.ob 188 (chain [lb ys]))]]) (.v (.iface 44 (.int .i64 2))) (by kernel_rfl) ⟨rfl, trivial⟩ hS.st fun ac gs ws pv hS hpv => ?_
   refine then_pan (block_pan (then_pan (then_pan (block_pan (then_pan ?_)))))
   exact fin_p rfl hS hpv rfl rfl
 ·have hScur := hS
  obtain rfl : 10 = i := by omega
  have hS := hScur
  clear hScur
  refine wp_exit (then_exit (then_exit (block_exit (then_n (region_p (E := E0) mo hZ [] trivial none (fun r hr => by cases hr)  1 0 (fun _ => []) (.v (.iface 44 (.int .i64 2))) (by kernel_rfl) trivial hS.st fun ac gs ws pv hS hpv => ?_)))))
  exact fin_p rfl hS hpv rfl rfl

end
end Go.Sx.Tryz
namespace Go.Sx.Tryz
open Go.Mi Go.RowKit Go.Sx Go.Proofs
noncomputable section
theorem ior64_nn (p q : Int) : 0 ≤ ior .u64 p q := (ior_rg p q).1
theorem numA_nn : ∀ (k n : Nat) (v : Int) (xs : List Int) (z : Int × List Int), numA k n v xs = some z → 0 ≤ z.1 ∧ z.2.length ≤ xs.length
 | 0, _, _, _, _, h => by cases h
 | _ + 1, _, _, [], _, h => by cases h
 | k + 1, n, v, c :: r, z, h => by
  unfold numA at h
  split at h
  ·have := numA_nn k (n + 1) _ r z h
   exact ⟨this.1, by simp only [List.length_cons]; omega⟩
  ·split at h
   ·cases h
   ·split at h
    ·cases h
    ·cases h
     exact ⟨ior64_nn _ _, by simp⟩
theorem numV_nn (xs : List Int) : 0 ≤ (numV xs).1 ∧ (numV xs).2.length ≤ xs.length := by
 unfold numV
 cases h : numM xs with
 | none => exact ⟨by simp, by simp⟩
 | some z => exact numA_nn _ _ _ _ z h
def small_kv (xs : List Int) (m : Nat) : Bool := if numB xs = true then (if (m : Int) < ((numV xs).1) then false else true) else false
def small_k (xs : List Int) (m : Nat) : Bool := shut (small_kv xs m)
theorem small_ke (xs : List Int) (m : Nat) : small_k xs m = small_kv xs m := shut_eq _
def small_p_ev (xs : List Int) (m : Nat) : Nat := if numB xs = true then 11 else 2
def small_p_e (xs : List Int) (m : Nat) : Nat := shut (small_p_ev xs m)
theorem small_p_ee (xs : List Int) (m : Nat) : small_p_e xs m = small_p_ev xs m := shut_eq _
def c_small (xs : List Int) (m : Nat) : Con := ⟨[.cp 0 0, vi (m : Int)], [(0, .ob 188 (chain [lb xs]))], vi (((((numV xs).1).toNat) : Nat) : Int), [(0, .ob 188 (chain [lb ((numV xs).2)]))]⟩
theorem small_ok (xs : List Int) (m : Nat) (h : xs.length ≤ 100000000000000) (hm : m ≤ 100000000000000) (hk : small_k xs m = true) : ConOk Tryz.prog 139 (c_small xs m) := by
 refine conOk_of rfl (nb := 1) Tryz.func139 rfl rfl Tryz.ntmps139 rfl rfl rfl fun g0 w0 ac gs ws hg0 hS => ?_
 have hS := hS.sp
 refine s0 [0, 1, 4] [0] 1 hS fun hS => ?_
 refine wp_seq (sA [(1, .ob false)] trivial (fun _ => [(decide ((m : Int) < 0)) = false]) [0, 1, 4, 7] [0] 1 ⟨decide_eq_false omm, trivial⟩ hS fun hS => ?_)
 refine cond_f hS ?_
 refine wp_skip (then_n (wp_seq ?_))
 by_cases h1 : numB xs = true
 ·refine rA [(1, .call ⟨126, (c_num xs), [(0, 0)], []⟩)] ⟨num_ok _ lnn h1, trivial⟩ (fun C => [ndC C 1]) [1, 4, 5] [0] 1 ⟨rfl, trivial⟩ hS fun hS => ?_
  refine then_n (wp_seq (sA [(2, .oi (m : Int))] trivial (fun _ => [IntKind.wrap .u64 (m : Int) = (m : Int)]) [4, 5, 14] [0] 1 ⟨wrap_u64 omm omm, trivial⟩ hS fun hS => ?_))
  refine if_d ((m : Int) < ((numV xs).1)) hS (fun h2 => ?_) (fun h2 => ?_)
  ·have hK : small_k xs m = false := (small_ke xs m).trans ((if_pos h1).trans (if_pos h2))
   rw [hK] at hk
   cases hk
  ·refine wp_skip (then_n (wp_seq ?_))
   have hnn := numV_nn xs
   refine rA [(1, .oi ((((numV xs).1).toNat : Nat) : Int))] trivial (fun _ => [IntKind.wrap .i64 ((numV xs).1) = ((((numV xs).1).toNat : Nat) : Int)]) [4] [0] 1 ⟨(wrap_i64 omm omm).trans omm, trivial⟩ hS fun hS => ?_
   refine then_n (wp_ret ?_)
   exact fin_y rfl (.inr rfl) hS [vi ((((numV xs).1).toNat : Nat) : Int)] [(0, some (.ob 188 (chain [lb ((numV xs).2)])))] rfl ⟨rfl, trivial⟩
 ·have hK : small_k xs m = false := (small_ke xs m).trans (if_neg h1)
  rw [hK] at hk
  cases hk
def c_small_p (xs : List Int) (m : Nat) : Con := ⟨[.cp 0 0, vi (m : Int)], [(0, .ob 188 (chain [lb xs]))], .v (.iface 44 (.int .i64 ((small_p_e xs m : Nat) : Int))), []⟩
theorem small_p_ok (xs : List Int) (m : Nat) (h : xs.length ≤ 100000000000000) (hm : m ≤ 100000000000000) (hk : small_k xs m = false) : PanOk Tryz.prog 139 (c_small_p xs m) := by
 refine conOk_ofE rfl (nb := 1) Tryz.func139 rfl rfl Tryz.ntmps139 rfl rfl rfl fun g0 w0 ac gs ws hg0 hS => ?_
 have hS := hS.sp
 refine s0 [0, 1, 4] [0] 1 hS fun hS => ?_
 refine wp_seq (sA [(1, .ob false)] trivial (fun _ => [(decide ((m : Int) < 0)) = false]) [0, 1, 4, 7] [0] 1 ⟨decide_eq_false omm, trivial⟩ hS fun hS => ?_)
 refine cond_f hS ?_
 refine wp_skip (then_n (wp_seq ?_))
 by_cases h1 : numB xs = true
 ·refine rA [(1, .call ⟨126, (c_num xs), [(0, 0)], []⟩)] ⟨num_ok _ lnn h1, trivial⟩ (fun C => [ndC C 1]) [1, 4, 5] [0] 1 ⟨rfl, trivial⟩ hS fun hS => ?_
  refine then_n (wp_seq (sA [(2, .oi (m : Int))] trivial (fun _ => [IntKind.wrap .u64 (m : Int) = (m : Int)]) [4, 5, 14] [0] 1 ⟨wrap_u64 omm omm, trivial⟩ hS fun hS => ?_))
  refine if_d ((m : Int) < ((numV xs).1)) hS (fun h2 => ?_) (fun h2 => ?_)
  ·refine region_p (E := E0) mo hZ [] trivial none (fun r hr => by cases hr)  1 0 (fun _ => []) (.v (.iface 44 (.int .i64 11))) (by kernel_rfl) trivial hS.st fun ac gs ws pv hS hpv => ?_
   refine then_pan ?_
   have hM : small_p_e xs m = 11 := (small_p_ee xs m).trans (if_pos h1)
   exact fin_p rfl hS hpv (by show _ = (.v (.iface 44 (.int .i64 ((small_p_e xs m : Nat) : Int))) : D); rw [hM] <;> rfl) rfl
  ·refine wp_skip (then_n (wp_seq ?_))
   have hnn := numV_nn xs
   refine rA [(1, .oi ((((numV xs).1).toNat : Nat) : Int))] trivial (fun _ => [IntKind.wrap .i64 ((numV xs).1) = ((((numV xs).1).toNat : Nat) : Int)]) [4] [0] 1 ⟨(wrap_i64 omm omm).trans omm, trivial⟩ hS fun hS => ?_
   refine then_n (wp_ret ?_)
   have hK : small_k xs m = true := (small_ke xs m).trans ((if_pos h1).trans (if_neg h2))
   rw [hK] at hk
   cases hk
 ·refine region_p (E := E0) mo hZ [] trivial (some ⟨126, (c_num_p xs), [(0, 0)], []⟩) (fun r hr => by cases hr; exact num_p_ok xs lnn (bne_k h1))  1 4 (fun _ => [nd [.cp 0 0] [some (.ob 188 (chain [lb xs]))]]) (.v (.iface 44 (.int .i64 2))) (by kernel_rfl) ⟨rfl, trivial⟩ hS.st fun ac gs ws pv hS hpv => ?_
  refine then_pan ?_
  have hM : small_p_e xs m = 2 := (small_p_ee xs m).trans (if_neg h1)
  exact fin_p rfl hS hpv (by show _ = (.v (.iface 44 (.int .i64 ((small_p_e xs m : Nat) : Int))) : D); rw [hM] <;> rfl) rfl

def rend_kv (xs : List Int) : Bool := if (0 : Int) < ((xs.length : Nat) : Int) then false else true
def rend_k (xs : List Int) : Bool := shut (rend_kv xs)
theorem rend_ke (xs : List Int) : rend_k xs = rend_kv xs := shut_eq _
def c_rend (xs : List Int) : Con := ⟨[.cp 0 0], [(0, .ob 188 (chain [lb xs]))], .tu (chain []), [(0, .ob 188 (chain [lb xs]))]⟩
theorem rend_ok (xs : List Int) (hk : rend_k xs = true) : ConOk Tryz.prog 90 (c_rend xs) := by
 refine conOk_of rfl (nb := 1) Tryz.func90 rfl rfl Tryz.ntmps90 rfl rfl rfl fun g0 w0 ac gs ws hg0 hS => ?_
 have hS := hS.sp
 refine s0 [11] [0] 1 hS fun hS => ?_
 refine if_d ((0 : Int) < ((xs.length : Nat) : Int)) hS (fun h1 => ?_) (fun h1 => ?_)
 ·have hK : rend_k xs = false := (rend_ke xs).trans (if_pos h1)
  rw [hK] at hk
  cases hk
 ·refine wp_skip ?_
  exact fin_y rfl (.inl rfl) hS [] [(0, some (.ob 188 (chain [lb xs])))] rfl ⟨rfl, trivial⟩
def c_rend_p (xs : List Int) : Con := ⟨[.cp 0 0], [(0, .ob 188 (chain [lb xs]))], .v (.iface 44 (.int .i64 2)), []⟩
theorem rend_p_ok (xs : List Int) (hk : rend_k xs = false) : PanOk Tryz.prog 90 (c_rend_p xs) := by
 refine conOk_ofE rfl (nb := 1) Tryz.func90 rfl rfl Tryz.ntmps90 rfl rfl rfl fun g0 w0 ac gs ws hg0 hS => ?_
 have hS := hS.sp
 refine s0 [11] [0] 1 hS fun hS => ?_
 refine if_d ((0 : Int) < ((xs.length : Nat) : Int)) hS (fun h1 => ?_) (fun h1 => ?_)
 ·refine region_p (E := E0) mo hZ [] trivial none (fun r hr => by cases hr)  1 0 (fun _ => []) (.v (.iface 44 (.int .i64 2))) (by kernel_rfl) trivial hS.st fun ac gs ws pv hS hpv => ?_
  exact fin_p rfl hS hpv rfl rfl
 ·refine wp_skip ?_
  have hK : rend_k xs = true := (rend_ke xs).trans (if_neg h1)
  rw [hK] at hk
  cases hk

def c_newrd (xs : List Int) : Con := ⟨[lb xs], [], .cp 0 0, [(0, .ob 188 (chain [lb xs]))]⟩
theorem newrd_ok (xs : List Int) (h : xs.length ≤ 100000000000000) : ConOk Tryz.prog 89 (c_newrd xs) := by
 refine conOk_of rfl (nb := 0) Tryz.func89 rfl rfl Tryz.ntmps89 rfl rfl rfl fun g0 w0 ac gs ws hg0 hS => ?_
 have hlen0 : xs.length ≤ 9223372036854775807 := hS.len 0 rfl
 have hS := hS.sp
 refine s0 [0, 2] [] 0 hS fun hS => ?_
 refine sA [(1, .call ⟨81, (c_clone xs), [], []⟩)] ⟨clone_ok _ lnn, trivial⟩ (fun C => [ndC C 1]) [2] [0] 1 ⟨rfl, trivial⟩ hS fun hS => ?_
 refine wp_ret ?_
 exact fin_y rfl (.inr rfl) hS [.cp 0 0] [(0, some (.ob 188 (chain [lb xs])))] rfl ⟨rfl, trivial⟩

end
end Go.Sx.Tryz
namespace Go.Sx.Tryz
open Go.Mi Go.RowKit Go.Sx Go.Proofs
noncomputable section
def rbytes1_kv (xs : List Int) (m : Nat) : Bool := if small_k xs m = true then (if rfixed_k ((numV xs).2) (((numV xs).1).toNat) = true then true else false) else false
def rbytes1_k (xs : List Int) (m : Nat) : Bool := shut (rbytes1_kv xs m)
theorem rbytes1_ke (xs : List Int) (m : Nat) : rbytes1_k xs m = rbytes1_kv xs m := shut_eq _
def rbytes1_p_ev (xs : List Int) (m : Nat) : Nat := if small_k xs m = true then 2 else (small_p_e xs m)
def rbytes1_p_e (xs : List Int) (m : Nat) : Nat := shut (rbytes1_p_ev xs m)
theorem rbytes1_p_ee (xs : List Int) (m : Nat) : rbytes1_p_e xs m = rbytes1_p_ev xs m := shut_eq _
def c_rbytes1 (xs : List Int) (m : Nat) : Con := ⟨[.cp 0 0, vi (m : Int)], [(0, .ob 188 (chain [lb xs]))], lb (((numV xs).2).take (((numV xs).1).toNat)), [(0, .ob 188 (chain [lb (((numV xs).2).drop (((numV xs).1).toNat))]))]⟩
theorem rbytes1_ok (xs : List Int) (m : Nat) (h : xs.length ≤ 100000000000000) (hm : m ≤ 100000000000000) (hk : rbytes1_k xs m = true) : ConOk Tryz.prog 102 (c_rbytes1 xs m) := by
 refine conOk_of rfl (nb := 1) Tryz.func102 rfl rfl Tryz.ntmps102 rfl rfl rfl fun g0 w0 ac gs ws hg0 hS => ?_
 have hS := hS.sp
 refine s0 [0, 1, 4] [0] 1 hS fun hS => ?_
 refine wp_seq ?_
 have hnn := numV_nn xs
 by_cases h1 : small_k xs m = true
 ·have hnn := numV_nn xs
  by_cases h2 : rfixed_k ((numV xs).2) (((numV xs).1).toNat) = true
  ·have hnn := numV_nn xs
   refine rA [(3, .call ⟨139, (c_small xs m), [(0, 0)], []⟩), (4, .call ⟨91, (c_rfixed ((numV xs).2) (((numV xs).1).toNat)), [(0, 0)], []⟩)] ⟨small_ok _ _ lnn omm h1, rfixed_ok _ _ lnn h2, trivial⟩ (fun C => [ndC C 3, ndC C 4]) [4] [0] 1 ⟨rfl, rfl, trivial⟩ hS fun hS => ?_
   refine then_n (wp_ret ?_)
   exact fin_y rfl (.inr rfl) hS [lb (((numV xs).2).take (((numV xs).1).toNat))] [(0, some (.ob 188 (chain [lb (((numV xs).2).drop (((numV xs).1).toNat))])))] rfl ⟨rfl, trivial⟩
  ·have hnn := numV_nn xs
   have hK : rbytes1_k xs m = false := (rbytes1_ke xs m).trans ((if_pos h1).trans (if_neg h2))
   rw [hK] at hk
   cases hk
 ·have hnn := numV_nn xs
  have hK : rbytes1_k xs m = false := (rbytes1_ke xs m).trans (if_neg h1)
  rw [hK] at hk
  cases hk
def c_rbytes1_p (xs : List Int) (m : Nat) : Con := ⟨[.cp 0 0, vi (m : Int)], [(0, .ob 188 (chain [lb xs]))], .v (.iface 44 (.int .i64 ((rbytes1_p_e xs m : Nat) : Int))), []⟩
theorem rbytes1_p_ok (xs : List Int) (m : Nat) (h : xs.length ≤ 100000000000000) (hm : m ≤ 100000000000000) (hk : rbytes1_k xs m = false) : PanOk Tryz.prog 102 (c_rbytes1_p xs m) := by
 refine conOk_ofE rfl (nb := 1) Tryz.func102 rfl rfl Tryz.ntmps102 rfl rfl rfl fun g0 w0 ac gs ws hg0 hS => ?_
 have hS := hS.sp
 refine s0 [0, 1, 4] [0] 1 hS fun hS => ?_
 refine wp_seq ?_
 have hnn := numV_nn xs
 by_cases h1 : small_k xs m = true
 ·have hnn := numV_nn xs
  by_cases h2 : rfixed_k ((numV xs).2) (((numV xs).1).toNat) = true
  ·have hnn := numV_nn xs
   refine rA [(3, .call ⟨139, (c_small xs m), [(0, 0)], []⟩), (4, .call ⟨91, (c_rfixed ((numV xs).2) (((numV xs).1).toNat)), [(0, 0)], []⟩)] ⟨small_ok _ _ lnn omm h1, rfixed_ok _ _ lnn h2, trivial⟩ (fun C => [ndC C 3, ndC C 4]) [4] [0] 1 ⟨rfl, rfl, trivial⟩ hS fun hS => ?_
   refine then_n (wp_ret ?_)
   have hK : rbytes1_k xs m = true := (rbytes1_ke xs m).trans ((if_pos h1).trans (if_pos h2))
   rw [hK] at hk
   cases hk
  ·have hnn := numV_nn xs
   refine region_p (E := E0) mo hZ [(3, .call ⟨139, (c_small xs m), [(0, 0)], []⟩)] ⟨small_ok _ _ lnn omm h1, trivial⟩ (some ⟨91, (c_rfixed_p ((numV xs).2) (((numV xs).1).toNat)), [(0, 0)], []⟩) (fun r hr => by cases hr; exact rfixed_p_ok ((numV xs).2) (((numV xs).1).toNat) lnn (bne_k h2))  4 32 (fun C => [ndC C 3, nd [.cp 0 0, vi (((((numV xs).1).toNat) : Nat) : Int)] [some (.ob 188 (chain [lb ((numV xs).2)]))]]) (.v (.iface 44 (.int .i64 2))) (by kernel_rfl) ⟨rfl, rfl, trivial⟩ hS.st fun ac gs ws pv hS hpv => ?_
   refine then_pan ?_
   have hM : rbytes1_p_e xs m = 2 := (rbytes1_p_ee xs m).trans (if_pos h1)
   exact fin_p rfl hS hpv (by show _ = (.v (.iface 44 (.int .i64 ((rbytes1_p_e xs m : Nat) : Int))) : D); rw [hM] <;> rfl) rfl
 ·have hnn := numV_nn xs
  refine region_p (E := E0) mo hZ [] trivial (some ⟨139, (c_small_p xs m), [(0, 0)], []⟩) (fun r hr => by cases hr; exact small_p_ok xs m lnn omm (bne_k h1))  3 48 (fun _ => [nd [.cp 0 0, vi (m : Int)] [some (.ob 188 (chain [lb xs]))]]) (.v (.iface 44 (.int .i64 ((small_p_e xs m : Nat) : Int)))) (by kernel_rfl) ⟨rfl, trivial⟩ hS.st fun ac gs ws pv hS hpv => ?_
  refine then_pan ?_
  have hM : rbytes1_p_e xs m = (small_p_e xs m) := (rbytes1_p_ee xs m).trans (if_neg h1)
  exact fin_p rfl hS hpv (by show _ = (.v (.iface 44 (.int .i64 ((rbytes1_p_e xs m : Nat) : Int))) : D); rw [hM] <;> rfl) rfl

end
end Go.Sx.Tryz
namespace Go.Sx.Tryz
open Go.Mi Go.RowKit Go.Sx Go.Proofs
noncomputable section
def c_wfixed (b xs : List Int) : Con := ⟨[.cp 0 0, lb xs], [(0, .ob 97 (chain [.sk 1])), (1, .sl 5 [.int .u8] b)], .cp 0 0, [(0, .ob 97 (chain [.sk 2])), (2, .sl 5 [.int .u8] (b ++ xs))]⟩
theorem wfixed_ok (b xs : List Int) (hb : b.length ≤ 100000000000) (hx : xs.length ≤ 10000000000) : ConOk Tryz.prog 53 (c_wfixed b xs) := by
 refine conOk_of rfl (nb := 2) Tryz.func53 rfl rfl Tryz.ntmps53 rfl rfl rfl fun g0 w0 ac gs ws hg0 hS => ?_
 have hlen1 : xs.length ≤ 9223372036854775807 := hS.len 1 rfl
 have hlenk1 : b.length ≤ 9223372036854775807 := hS.lens 1 rfl
 have hS := hS.sp
 refine s0 [0, 1, 4] [0, 1] 2 hS fun hS => ?_
 refine wp_seq (s0 [0, 1, 4, 6] [0, 1] 2 hS fun hS => ?_)
 refine cond_t hS ?_
 refine rA [] trivial (fun _ => [b.length + xs.length ≤ 9223372036854775807, (b.length + xs.length) * 1 ≤ 140737488355328]) [0, 4] [0, 2] 3 ⟨by omega, by omega, trivial⟩ hS fun hS => ?_
 refine then_n (s0 [4] [0, 2] 3 hS fun hS => ?_)
 refine wp_ret ?_
 exact fin_y rfl (.inr rfl) hS [.cp 0 0] [(0, some (.ob 97 (chain [.sk 2]))), (2, some (.sl 5 [.int .u8] (b ++ xs)))] rfl ⟨rfl, rfl, trivial⟩

def c_wfixed0 (xs : List Int) : Con := ⟨[.cp 0 0, lb xs], [(0, .ob 97 (chain [.v (.slice none 0 0)]))], .cp 0 0, [(0, .ob 97 (chain [.sk 1])), (1, .sl 5 [.int .u8] ([] ++ xs))]⟩
theorem wfixed0_ok (xs : List Int) (hx : xs.length ≤ 10000000000) : ConOk Tryz.prog 53 (c_wfixed0 xs) := by
 refine conOk_of rfl (nb := 1) Tryz.func53 rfl rfl Tryz.ntmps53 rfl rfl rfl fun g0 w0 ac gs ws hg0 hS => ?_
 have hlen1 : xs.length ≤ 9223372036854775807 := hS.len 1 rfl
 have hS := hS.sp
 refine s0 [0, 1, 4] [0] 1 hS fun hS => ?_
 refine wp_seq (s0 [0, 1, 4, 6] [0] 1 hS fun hS => ?_)
 refine cond_t hS ?_
 refine rA [] trivial (fun _ => [([] : List (RT [.int .u8])).length + xs.length ≤ 9223372036854775807, (([] : List (RT [.int .u8])).length + xs.length) * 1 ≤ 140737488355328]) [0, 4] [0, 1] 2 ⟨by simp <;> omega, by simp <;> omega, trivial⟩ hS fun hS => ?_
 refine then_n (s0 [4] [0, 1] 2 hS fun hS => ?_)
 refine wp_ret ?_
 exact fin_y rfl (.inr rfl) hS [.cp 0 0] [(0, some (.ob 97 (chain [.sk 1]))), (1, some (.sl 5 [.int .u8] ([] ++ xs)))] rfl ⟨rfl, rfl, trivial⟩

def numW (n : Nat) : List Int := if 128 ≤ n then ior .u8 (IntKind.wrap .u8 (n : Int)) 128 :: numW (n / 128) else [IntKind.wrap .u8 (n : Int)]
termination_by n
decreasing_by omega
theorem numW_y {n : Nat} (h : 128 ≤ n) : numW n = ior .u8 (IntKind.wrap .u8 (n : Int)) 128 :: numW (n / 128) := by rw [numW, if_pos h]
theorem numW_n {n : Nat} (h : ¬ 128 ≤ n) : numW n = [IntKind.wrap .u8 (n : Int)] := by rw [numW, if_neg h]
theorem numW_len : ∀ (k n : Nat), n < 128 ^ (k + 1) → (numW n).length ≤ k + 1
 | 0, n, h => by rw [numW_n omm]; simp
 | k + 1, n, h => by
  by_cases h1 : 128 ≤ n
  ·rw [numW_y h1, List.length_cons]
   have := numW_len k (n / 128) (by rw [Nat.pow_succ] at h; exact Nat.div_lt_of_lt_mul omm)
   omega
  ·rw [numW_n h1]; simp
theorem numW_10 {n : Nat} (h : n < 18446744073709551616) : (numW n).length ≤ 10 := numW_len 9 n (Nat.lt_trans h (by decide))
theorem shr7 {m : Nat} : ishr .u64 (m : Int) 7 = ((m / 128 : Nat) : Int) := by
 unfold ishr
 rw [show min (7 : Int).toNat (IntKind.bits .u64) = 7 from rfl, fdiv_nat omm, Int.toNat_natCast, Nat.shiftRight_eq_div_pow]
def c_wnum (b : List Int) (n : Nat) : Con := ⟨[.cp 0 0, .v (.int .u64 (n : Int))], [(0, .ob 97 (chain [.sk 1])), (1, .sl 5 [.int .u8] b)], .cp 0 0, [(0, .ob 97 (chain [.sk 2])), (2, .sl 5 [.int .u8] (b ++ numW n))]⟩
theorem wnum_ok (b : List Int) (n : Nat) (hb : b.length ≤ 90000000000) (hn : n < 18446744073709551616) : ConOk Tryz.prog 47 (c_wnum b n) := by
 refine conOk_of rfl (nb := 2) Tryz.func47 rfl rfl Tryz.ntmps47 rfl rfl rfl fun g0 w0 ac gs ws hg0 hS => ?_
 have hlenk1 : b.length ≤ 9223372036854775807 := hS.lens 1 rfl
 have hS := hS.sp
 refine s0 [0, 1, 4] [0, 1] 2 hS fun hS => ?_
 refine wp_seq (wp_block ?_)
 obtain ⟨gs, hS⟩ := hS.alias 1
 refine loop_y (ι := Nat × (List Int)) hg0 hS (fun z_ => match z_ with | (m, o) => m) (fun z_ => match z_ with | (m, o) => [(0, .cp 0 0), (1, .v (.int .u64 ((m : Nat) : Int))), (4, .v (.pointer none))]) (fun z_ => match z_ with | (m, o) => [(0, .ob 97 (chain [.sk 2])), (2, .sl 5 [.int .u8] o)]) (fun z_ => match z_ with | (m, o) => (m < 18446744073709551616) ∧ (o.length + (numW m).length = b.length + (numW n).length) ∧ (o ++ numW m = b ++ numW n) ∧ True) 3 (n, b) [(0, 0), (1, 1), (2, 2)] ⟨hn, rfl, rfl, trivial⟩ ?_
 rintro ⟨m, o⟩ ac gs ws ⟨hm, hol, hq, _⟩ hS
 refine wp_seq (s0 [0, 1, 4, 6] [0, 2] 3 hS fun hS => ?_)
 refine if_d ((128 : Int) ≤ (m : Int)) hS (fun h1 => ?_) (fun h1 => ?_)
 ·refine wp_skip (then_n (wp_seq (wp_block ?_)))
  have h10 := numW_10 hn
  refine rA [(5, .call ⟨53, (c_wfixed o [(ior .u8 (IntKind.wrap .u8 (m : Int)) 128)]), [(0, 0), (1, 2)], [(2, 3)]⟩)] ⟨wfixed_ok _ _ lnn lnn, trivial⟩ (fun C => [ndC C 5]) [0, 1, 4] [0, 3] 4 ⟨rfl, trivial⟩ hS fun hS => ?_
  refine block_n (then_n (rA [(1, .oi ((m / 128 : Nat) : Int))] trivial (fun _ => [ishr .u64 (m : Int) 7 = ((m / 128 : Nat) : Int), (0 : Int) ≤ 7]) [0, 1, 4] [0, 3] 4 ⟨shr7, by omega, trivial⟩ hS fun hS => ?_))
  refine then_n ?_
  exact next_y hg0 hS (s := (m, o)) (m / 128, (o ++ [(ior .u8 (IntKind.wrap .u8 (m : Int)) 128)])) [(0, 0), (1, 1), (2, 3)] (show m / 128 < m from by omega) ⟨omm, (by rw [List.length_append, ← hol, numW_y (n := m) omm]; simp only [List.length_cons, List.length_nil]; omega), (by rw [List.append_assoc, ← hq, numW_y (n := m) omm]; rfl), trivial⟩
 ·have hScur := hS
  have hS := hScur
  clear hScur
  refine wp_exit (then_exit (then_exit (block_exit (then_n (wp_seq ?_)))))
  have h10 := numW_10 hn
  have e : o ++ [IntKind.wrap .u8 (m : Int)] = b ++ numW n := by rw [← hq, numW_n omm]
  refine rA [(4, .call ⟨53, (c_wfixed o [(IntKind.wrap .u8 (m : Int))]), [(0, 0), (1, 2)], [(2, 3)]⟩)] ⟨wfixed_ok _ _ lnn lnn, trivial⟩ (fun C => [ndC C 4]) [4] [0, 3] 4 ⟨rfl, trivial⟩ hS fun hS => ?_
  refine then_n (wp_ret ?_)
  obtain ⟨gs, hS⟩ := hS.rn [(0, 0), (1, 1), (2, 3)] [(4, .cp 0 0)] [(0, .ob 97 (chain [.sk 2])), (2, .sl 5 [.int .u8] (o ++ [(IntKind.wrap .u8 (m : Int))]))] 3 hg0
  exact fin_y rfl (.inr rfl) hS [.cp 0 0] [(0, some (.ob 97 (chain [.sk 2]))), (2, some (.sl 5 [.int .u8] (o ++ [(IntKind.wrap .u8 (m : Int))])))] rfl (by show H1Ok _ [(0, .ob 97 (chain [.sk 2])), (2, .sl 5 [.int .u8] (b ++ numW n))] true; rw [← e]; exact ⟨rfl, rfl, trivial⟩)

def c_wnum0 (n : Nat) : Con := ⟨[.cp 0 0, .v (.int .u64 (n : Int))], [(0, .ob 97 (chain [.v (.slice none 0 0)]))], .cp 0 0, [(0, .ob 97 (chain [.sk 1])), (1, .sl 5 [.int .u8] ([] ++ numW n))]⟩
theorem wnum0_ok (n : Nat) (hn : n < 18446744073709551616) : ConOk Tryz.prog 47 (c_wnum0 n) := by
 refine conOk_of rfl (nb := 1) Tryz.func47 rfl rfl Tryz.ntmps47 rfl rfl rfl fun g0 w0 ac gs ws hg0 hS => ?_
 have hS := hS.sp
 refine wp_seq ?_
 obtain ⟨gs, hS⟩ := hS.nilob 0 0 5 [.int .u8]
 refine r0 [0, 1, 4] [0, 1] 2 hS fun hS => ?_
 refine then_n (wp_seq (wp_block (loop_y (ι := Nat × (List Int)) hg0 hS (fun z_ => match z_ with | (m, o) => m) (fun z_ => match z_ with | (m, o) => [(0, .cp 0 0), (1, .v (.int .u64 ((m : Nat) : Int))), (4, .v (.pointer none))]) (fun z_ => match z_ with | (m, o) => [(0, .ob 97 (chain [.sk 2])), (2, .sl 5 [.int .u8] o)]) (fun z_ => match z_ with | (m, o) => (m < 18446744073709551616) ∧ (o.length + (numW m).length = 0 + (numW n).length) ∧ (o ++ numW m = ([] : List Int) ++ numW n) ∧ True) 3 (n, []) [(0, 0), (2, 1)] ⟨hn, (by simp), rfl, trivial⟩ ?_)))
 rintro ⟨m, o⟩ ac gs ws ⟨hm, hol, hq, _⟩ hS
 refine wp_seq (s0 [0, 1, 4, 6] [0, 2] 3 hS fun hS => ?_)
 refine if_d ((128 : Int) ≤ (m : Int)) hS (fun h1 => ?_) (fun h1 => ?_)
 ·refine wp_skip (then_n (wp_seq (wp_block ?_)))
  have h10 := numW_10 hn
  refine rA [(5, .call ⟨53, (c_wfixed o [(ior .u8 (IntKind.wrap .u8 (m : Int)) 128)]), [(0, 0), (1, 2)], [(2, 3)]⟩)] ⟨wfixed_ok _ _ lnn lnn, trivial⟩ (fun C => [ndC C 5]) [0, 1, 4] [0, 3] 4 ⟨rfl, trivial⟩ hS fun hS => ?_
  refine block_n (then_n (rA [(1, .oi ((m / 128 : Nat) : Int))] trivial (fun _ => [ishr .u64 (m : Int) 7 = ((m / 128 : Nat) : Int), (0 : Int) ≤ 7]) [0, 1, 4] [0, 3] 4 ⟨shr7, by omega, trivial⟩ hS fun hS => ?_))
  refine then_n ?_
  exact next_y hg0 hS (s := (m, o)) (m / 128, (o ++ [(ior .u8 (IntKind.wrap .u8 (m : Int)) 128)])) [(0, 0), (2, 3)] (show m / 128 < m from by omega) ⟨omm, (by rw [List.length_append, ← hol, numW_y (n := m) omm]; simp only [List.length_cons, List.length_nil]; omega), (by rw [List.append_assoc, ← hq, numW_y (n := m) omm]; rfl), trivial⟩
 ·have hScur := hS
  have hS := hScur
  clear hScur
  refine wp_exit (then_exit (then_exit (block_exit (then_n (wp_seq ?_)))))
  have h10 := numW_10 hn
  have e : o ++ [IntKind.wrap .u8 (m : Int)] = ([] : List Int) ++ numW n := by rw [← hq, numW_n omm]
  refine rA [(4, .call ⟨53, (c_wfixed o [(IntKind.wrap .u8 (m : Int))]), [(0, 0), (1, 2)], [(2, 3)]⟩)] ⟨wfixed_ok _ _ lnn lnn, trivial⟩ (fun C => [ndC C 4]) [4] [0, 3] 4 ⟨rfl, trivial⟩ hS fun hS => ?_
  refine then_n (wp_ret ?_)
  obtain ⟨gs, hS⟩ := hS.rn [(0, 0), (1, 3)] [(4, .cp 0 0)] [(0, .ob 97 (chain [.sk 1])), (1, .sl 5 [.int .u8] (o ++ [(IntKind.wrap .u8 (m : Int))]))] 2 hg0
  exact fin_y rfl (.inr rfl) hS [.cp 0 0] [(0, some (.ob 97 (chain [.sk 1]))), (1, some (.sl 5 [.int .u8] (o ++ [(IntKind.wrap .u8 (m : Int))])))] rfl (by show H1Ok _ [(0, .ob 97 (chain [.sk 1])), (1, .sl 5 [.int .u8] (([] : List Int) ++ numW n))] true; rw [← e]; exact ⟨rfl, rfl, trivial⟩)

end
end Go.Sx.Tryz
namespace Go.Sx.Tryz
open Go.Mi Go.RowKit Go.Sx Go.Proofs
noncomputable section
def c_wbytes (b xs : List Int) : Con := ⟨[.cp 0 0, lb xs], [(0, .ob 97 (chain [.sk 1])), (1, .sl 5 [.int .u8] b)], .cp 0 0, [(0, .ob 97 (chain [.sk 2])), (2, .sl 5 [.int .u8] ((b ++ numW xs.length) ++ xs))]⟩
theorem wbytes_ok (b xs : List Int) (hb : b.length ≤ 80000000000) (hx : xs.length ≤ 10000000000) : ConOk Tryz.prog 48 (c_wbytes b xs) := by
 refine conOk_of rfl (nb := 2) Tryz.func48 rfl rfl Tryz.ntmps48 rfl rfl rfl fun g0 w0 ac gs ws hg0 hS => ?_
 have hlen1 : xs.length ≤ 9223372036854775807 := hS.len 1 rfl
 have hlenk1 : b.length ≤ 9223372036854775807 := hS.lens 1 rfl
 have hS := hS.sp
 refine s0 [0, 1, 4] [0, 1] 2 hS fun hS => ?_
 refine wp_seq ?_
 have h10 := numW_10 (n := xs.length) omm
 refine rA [(3, .oi ((xs.length : Nat) : Int)), (4, .call ⟨47, (c_wnum b xs.length), [(0, 0), (1, 1)], [(2, 2)]⟩), (6, .call ⟨53, (c_wfixed (b ++ numW xs.length) xs), [(0, 0), (1, 2)], [(2, 3)]⟩)] ⟨wnum_ok _ _ lnn omm, wfixed_ok _ _ lnn lnn, trivial⟩ (fun C => [IntKind.wrap .u64 ((xs.length : Nat) : Int) = ((xs.length : Nat) : Int), ndC C 4, ndC C 6]) [4] [0, 3] 4 ⟨wrap_u64 omm omm, rfl, rfl, trivial⟩ hS fun hS => ?_
 refine then_n (wp_ret ?_)
 obtain ⟨gs, hS⟩ := hS.rn [(0, 0), (1, 1), (2, 3)] [(4, .cp 0 0)] [(0, .ob 97 (chain [.sk 2])), (2, .sl 5 [.int .u8] ((b ++ numW xs.length) ++ xs))] 3 hg0
 exact fin_y rfl (.inr rfl) hS [.cp 0 0] [(0, some (.ob 97 (chain [.sk 2]))), (2, some (.sl 5 [.int .u8] ((b ++ numW xs.length) ++ xs)))] rfl ⟨rfl, rfl, trivial⟩

def c_wbytes0 (xs : List Int) : Con := ⟨[.cp 0 0, lb xs], [(0, .ob 97 (chain [.v (.slice none 0 0)]))], .cp 0 0, [(0, .ob 97 (chain [.sk 1])), (1, .sl 5 [.int .u8] (([] ++ numW xs.length) ++ xs))]⟩
theorem wbytes0_ok (xs : List Int) (hx : xs.length ≤ 10000000000) : ConOk Tryz.prog 48 (c_wbytes0 xs) := by
 refine conOk_of rfl (nb := 1) Tryz.func48 rfl rfl Tryz.ntmps48 rfl rfl rfl fun g0 w0 ac gs ws hg0 hS => ?_
 have hlen1 : xs.length ≤ 9223372036854775807 := hS.len 1 rfl
 have hS := hS.sp
 refine s0 [0, 1, 4] [0] 1 hS fun hS => ?_
 refine wp_seq ?_
 have h10 := numW_10 (n := xs.length) omm
 refine rA [(3, .oi ((xs.length : Nat) : Int)), (4, .call ⟨47, (c_wnum0 xs.length), [(0, 0)], [(1, 1)]⟩), (6, .call ⟨53, (c_wfixed ([] ++ numW xs.length) xs), [(0, 0), (1, 1)], [(2, 2)]⟩)] ⟨wnum0_ok _ omm, wfixed_ok _ _ lnn lnn, trivial⟩ (fun C => [IntKind.wrap .u64 ((xs.length : Nat) : Int) = ((xs.length : Nat) : Int), ndC C 4, ndC C 6]) [4] [0, 2] 3 ⟨wrap_u64 omm omm, rfl, rfl, trivial⟩ hS fun hS => ?_
 refine then_n (wp_ret ?_)
 obtain ⟨gs, hS⟩ := hS.rn [(0, 0), (1, 2)] [(4, .cp 0 0)] [(0, .ob 97 (chain [.sk 1])), (1, .sl 5 [.int .u8] (([] ++ numW xs.length) ++ xs))] 2 hg0
 exact fin_y rfl (.inr rfl) hS [.cp 0 0] [(0, some (.ob 97 (chain [.sk 1]))), (1, some (.sl 5 [.int .u8] (([] ++ numW xs.length) ++ xs)))] rfl ⟨rfl, rfl, trivial⟩

def c_wdone (b : List Int) : Con := ⟨[.cp 0 0], [(0, .ob 97 (chain [.sk 1])), (1, .sl 5 [.int .u8] b)], lb b, [(0, .ob 97 (chain [lb b]))]⟩
theorem wdone_ok (b : List Int) (hb : b.length ≤ 90000000000000) : ConOk Tryz.prog 49 (c_wdone b) := by
 refine conOk_of rfl (nb := 2) Tryz.func49 rfl rfl Tryz.ntmps49 rfl rfl rfl fun g0 w0 ac gs ws hg0 hS => ?_
 have hlenk1 : b.length ≤ 9223372036854775807 := hS.lens 1 rfl
 have hS := hS.sp
 refine s0 [0, 2] [0, 1] 2 hS fun hS => ?_
 refine wp_seq (s0 [0, 2, 4] [0, 1] 2 hS fun hS => ?_)
 refine cond_f hS ?_
 refine wp_skip (then_n (wp_seq ?_))
 obtain ⟨gs, hS⟩ := hS.fz 1
 refine rA [(4, .call ⟨81, (c_clone b), [], []⟩)] ⟨clone_ok _ lnn, trivial⟩ (fun C => [ndC C 4]) [2] [0] 2 ⟨rfl, trivial⟩ hS fun hS => ?_
 refine then_n (wp_ret ?_)
 exact fin_y rfl (.inr rfl) hS [lb b] [(0, some (.ob 97 (chain [lb b])))] rfl ⟨rfl, trivial⟩

end
end Go.Sx.Tryz
namespace Go.Sx.Tryz
open Go.Mi Go.RowKit Go.Sx Go.Proofs
noncomputable section
def rot32_v (x k : Int) : Int := (ior .u32 (ishl .u32 x (iand .u64 (IntKind.wrap .u64 k) 31)) (ishr .u32 x (isub .u64 32 (iand .u64 (IntKind.wrap .u64 k) 31))))
def rot32_m (x k : Int) : Int := shut (rot32_v x k)
theorem rot32_e (x k : Int) : rot32_m x k = rot32_v x k := shut_eq _
def c_rot32 (x k : Int) : Con := ⟨[.v (.int .u32 x), vi k], [], .v (.int .u32 (rot32_m x k)), []⟩
theorem rot32_ok (x k : Int) : ConOk Tryz.prog 191 (c_rot32 x k) := by
 refine conOk_of rfl (nb := 0) Tryz.func191 rfl rfl Tryz.ntmps191 rfl rfl rfl fun g0 w0 ac gs ws hg0 hS => ?_
 have hS := hS.sp
 refine s0 [0, 1, 4] [] 0 hS fun hS => ?_
 refine s0 [0, 4, 5] [] 0 hS fun hS => ?_
 refine sA [] trivial (fun _ => [(0 : Int) ≤ (iand .u64 (IntKind.wrap .u64 k) 31), (0 : Int) ≤ (isub .u64 32 (iand .u64 (IntKind.wrap .u64 k) 31))]) [4] [] 0 ⟨wrap_nn rfl, wrap_nn rfl, trivial⟩ hS fun hS => ?_
 refine wp_ret ?_
 have hM : rot32_m x k = (ior .u32 (ishl .u32 x (iand .u64 (IntKind.wrap .u64 k) 31)) (ishr .u32 x (isub .u64 32 (iand .u64 (IntKind.wrap .u64 k) 31)))) := rot32_e x k
 exact fin_y rfl (.inr rfl) hS [.v (.int .u32 (ior .u32 (ishl .u32 x (iand .u64 (IntKind.wrap .u64 k) 31)) (ishr .u32 x (isub .u64 32 (iand .u64 (IntKind.wrap .u64 k) 31)))))] [] (by show weak _ (.v (.int .u32 (rot32_m x k))) = (.v (.int .u32 (rot32_m x k))); rw [hM]; first | (simp only []; rfl) | (simp only []; done) | rfl) trivial

def little64_l1_s (x : Int) (x8 : Nat) : (List Int) → (List Int) := fun x3 => x3.set x8 (IntKind.wrap .u8 (ishr .u64 x ((8 * x8 : Nat) : Int)))
def little64_l1 (x : Int) : Nat → (List Int)
 | 0 => List.replicate 8 (0 : Int)
 | x8 + 1 => little64_l1_s x x8 (little64_l1 x x8)
def little64_v (x : Int) : (List Int) := little64_l1 x 8
def little64_m (x : Int) : (List Int) := shut (little64_v x)
theorem little64_e (x : Int) : little64_m x = little64_v x := shut_eq _
@[simp] theorem little64_len (x : Int) : (little64_m x).length = 8 := by
 have key : ∀ i, (little64_l1 x i).length = 8 := by
  intro i
  induction i with
  | zero => rfl
  | succ i ih => exact (List.length_set ..).trans ih
 rw [little64_e]
 exact key 8
def c_little64 (x : Int) : Con := ⟨[.v (.int .u64 x)], [], .sk 0, [(0, .sl 5 [.int .u8] (little64_m x))]⟩
theorem little64_ok (x : Int) : ConOk Tryz.prog 185 (c_little64 x) := by
 refine conOk_of rfl (nb := 0) Tryz.func185 rfl rfl Tryz.ntmps185 rfl rfl rfl fun g0 w0 ac gs ws hg0 hS => ?_
 have hS := hS.sp
 refine s0 [0, 2] [] 0 hS fun hS => ?_
 refine sA [] trivial (fun _ => [(8 : Int) = 8, (0 : Int) ≤ 8, 1 * 8 ≤ 281474976710656, (8 : Int) ≤ 9223372036854775807]) [0, 2, 3] [0] 1 ⟨rfl, by omega, by omega, by omega, trivial⟩ hS fun hS => ?_
 refine wp_seq (sA [(1, .oi 8)] trivial (fun _ => [(((List.replicate 8 (0 : Int)).length : Nat) : Int) = 8]) [0, 2, 3, 7, 8] [0] 1 ⟨by rw [List.length_replicate]; rfl, trivial⟩ hS fun hS => ?_)
 refine wp_block (loop_y (ι := Nat × (List Int)) hg0 hS (fun z_ => match z_ with | (x8, x3) => 8 - x8) (fun z_ => match z_ with | (x8, x3) => [(0, .v (.int .u64 x)), (2, .v (.slice none 0 0)), (3, .sk 0), (7, vi 8), (8, vi ((x8 : Nat) : Int))]) (fun z_ => match z_ with | (x8, x3) => [(0, .sl 5 [.int .u8] x3)]) (fun z_ => match z_ with | (x8, x3) => (x8 ≤ 8) ∧ (x3 = little64_l1 x x8) ∧ (x3.length = 8) ∧ True) 1 (0, List.replicate 8 (0 : Int)) [(0, 0)] ⟨omm, rfl, rfl, trivial⟩ ?_)
 rintro ⟨x8, x3⟩ ac gs ws ⟨hx8, hq1, p1, _⟩ hS
 refine s0 [0, 2, 3, 7, 8, 9] [0] 1 hS fun hS => ?_
 refine wp_seq ?_
 refine if_d ((x8 : Int) < 8) hS (fun h1 => ?_) (fun h1 => ?_)
 ·refine wp_skip (then_n (wp_seq (wp_block (s0 [0, 2, 3, 4, 7, 8] [0] 1 hS fun hS => ?_))))
  refine rA [(4, .oi ((8 * x8 : Nat) : Int))] trivial (fun _ => [imul .i64 8 (x8 : Int) = ((8 * x8 : Nat) : Int), (0 : Int) ≤ ((8 * x8 : Nat) : Int), (0 : Int) ≤ (x8 : Int) ∧ (x8 : Int) < ((x3.length : Nat) : Int)]) [0, 2, 3, 7, 8] [0] 1 ⟨by rw [imul64 omm omm]; omega, by omega, by omega, trivial⟩ hS fun hS => ?_
  refine block_n (then_n (rA [(0, .oi ((x8 + 1 : Nat) : Int))] trivial (fun _ => [iadd .i64 (x8 : Int) 1 = ((x8 + 1 : Nat) : Int)]) [0, 2, 3, 7, 8] [0] 1 ⟨by rw [iadd64 omm omm]; omega, trivial⟩ hS fun hS => ?_))
  refine then_n ?_
  exact next_y hg0 hS (s := (x8, x3)) (x8 + 1, x3.set x8 (IntKind.wrap .u8 (ishr .u64 x ((8 * x8 : Nat) : Int)))) [(0, 0)] (show 8 - (x8 + 1) < 8 - x8 from by omega) ⟨omm, (it_next (F := little64_l1 x) (st := little64_l1_s x) (fun _ => rfl) hq1 rfl), (by rw [List.length_set]; exact p1), trivial⟩
 ·have hScur := hS
  obtain rfl : 8 = x8 := by omega
  obtain rfl : little64_l1 x 8 = x3 := Eq.symm (congrArg (fun z => z) hq1)
  have hS := hScur
  clear hScur
  refine wp_exit (then_exit (then_exit (block_exit (then_n (s0 [2] [0] 1 hS fun hS => ?_)))))
  refine wp_ret ?_
  have hM : little64_m x = little64_l1 x 8 := little64_e x
  exact fin_y rfl (.inr rfl) hS [.sk 0] [(0, some (.sl 5 [.int .u8] (little64_l1 x 8)))] rfl (by show H1Ok _ [(0, .sl 5 [.int .u8] (little64_m x))] true; rw [hM]; first | (simp only []; exact ⟨rfl, trivial⟩) | exact ⟨rfl, trivial⟩)

def srev_l1_s (xs : List Int) (k1 : Nat) : (Nat × Nat × (List Int)) → (Nat × Nat × (List Int)) := fun z_ => match z_ with | (x2, x3, x0) => (x2 + 1, x3 - 1, (x0.set x2 (x0.getD x3 0)).set x3 (x0.getD x2 0))
def srev_l1 (xs : List Int) : Nat → Nat × Nat × (List Int)
 | 0 => (0, xs.length - 1, xs)
 | k1 + 1 => srev_l1_s xs k1 (srev_l1 xs k1)
def srev_l1_c (xs : List Int) : (Nat × Nat × (List Int)) → Prop := fun z_ => match z_ with | (x2, x3, x0) => ((x2 : Nat) : Int) < ((x3 : Nat) : Int)
def srev_v (xs : List Int) : (List Int) := (srev_l1 xs (lst fun j => srev_l1_c xs (srev_l1 xs j))).2.2
def srev_m (xs : List Int) : (List Int) := shut (srev_v xs)
theorem srev_e (xs : List Int) : srev_m xs = srev_v xs := shut_eq _
theorem srev_len (xs : List Int) (h : xs.length = 8) : (srev_m xs).length = 8 := by
 have key : ∀ i, (srev_l1 xs i).2.2.length = 8 := by
  intro i
  induction i with
  | zero => exact h
  | succ i ih =>
   show (((srev_l1 xs i).2.2.set _ _).set _ _).length = 8
   rw [List.length_set, List.length_set]; exact ih
 rw [srev_e]
 exact key _
def c_srev (xs : List Int) : Con := ⟨[.sk 0], [(0, .sl 5 [.int .u8] xs)], .tu (chain []), [(0, .sl 5 [.int .u8] (srev_m xs))]⟩
theorem srev_ok (xs : List Int) (h : xs.length = 8) : ConOk Tryz.prog 186 (c_srev xs) := by
 refine conOk_of rfl (nb := 1) Tryz.func186 rfl rfl Tryz.ntmps186 rfl rfl rfl fun g0 w0 ac gs ws hg0 hS => ?_
 have hlenk0 : xs.length ≤ 9223372036854775807 := hS.lens 0 rfl
 have hS := hS.sp
 refine sA [(2, .oi ((xs.length - 1 : Nat) : Int))] trivial (fun _ => [isub .i64 ((xs.length : Nat) : Int) 1 = ((xs.length - 1 : Nat) : Int)]) [0, 2, 3] [0] 1 ⟨by rw [isub64 omm omm]; omega, trivial⟩ hS fun hS => ?_
 refine wp_block (loop_y (ι := Nat × Nat × Nat × (List Int)) hg0 hS (fun z_ => match z_ with | (k1, x2, x3, x0) => x3 - x2) (fun z_ => match z_ with | (k1, x2, x3, x0) => [(0, .sk 0), (2, vi ((x2 : Nat) : Int)), (3, vi ((x3 : Nat) : Int))]) (fun z_ => match z_ with | (k1, x2, x3, x0) => [(0, .sl 5 [.int .u8] x0)]) (fun z_ => match z_ with | (k1, x2, x3, x0) => ((x2, x3, x0) = srev_l1 xs k1) ∧ (∀ j, j < k1 → srev_l1_c xs (srev_l1 xs j)) ∧ (x0.length = 8) ∧ (x3 < 8) ∧ True) 1 (0, 0, xs.length - 1, xs) [(0, 0)] ⟨rfl, (fun j h => absurd h (Nat.not_lt_zero j)), h, omm, trivial⟩ ?_)
 rintro ⟨k1, x2, x3, x0⟩ ac gs ws ⟨hq1, hj1, p1, p2, _⟩ hS
 refine wp_seq (s0 [0, 2, 3, 9] [0] 1 hS fun hS => ?_)
 refine if_d ((x2 : Int) < (x3 : Int)) hS (fun h1 => ?_) (fun h1 => ?_)
 ·refine wp_skip (then_n (wp_seq (wp_block ?_)))
  have hsl : (x0.set x2 (x0.getD x3 0)).length = 8 := by rw [List.length_set]; exact p1
  refine rA [] trivial (fun _ => [(0 : Int) ≤ (x3 : Int) ∧ (x3 : Int) < ((x0.length : Nat) : Int), (0 : Int) ≤ (x2 : Int) ∧ (x2 : Int) < ((x0.length : Nat) : Int), (0 : Int) ≤ (x2 : Int) ∧ (x2 : Int) < ((x0.length : Nat) : Int), (0 : Int) ≤ (x3 : Int) ∧ (x3 : Int) < (((x0.set x2 (x0.getD x3 0)).length : Nat) : Int)]) [0, 2, 3] [0] 1 ⟨by omega, by omega, by omega, by omega, trivial⟩ hS fun hS => ?_
  refine block_n (then_n (rA [(1, .oi ((x2 + 1 : Nat) : Int)), (3, .oi ((x3 - 1 : Nat) : Int))] trivial (fun _ => [iadd .i64 (x2 : Int) 1 = ((x2 + 1 : Nat) : Int), isub .i64 (x3 : Int) 1 = ((x3 - 1 : Nat) : Int)]) [0, 2, 3] [0] 1 ⟨by rw [iadd64 omm omm]; omega, by rw [isub64 omm omm]; omega, trivial⟩ hS fun hS => ?_))
  refine then_n ?_
  exact next_y hg0 hS (s := (k1, x2, x3, x0)) (k1 + 1, x2 + 1, x3 - 1, (x0.set x2 (x0.getD x3 0)).set x3 (x0.getD x2 0)) [(0, 0)] (show (x3 - 1) - (x2 + 1) < x3 - x2 from by omega) ⟨(it_next (F := srev_l1 xs) (st := srev_l1_s xs) (fun _ => rfl) hq1 rfl), (lst_next hj1 (by rw [← hq1]; exact h1)), (by rw [List.length_set, List.length_set]; exact p1), omm, trivial⟩
 ·have hScur := hS
  obtain rfl := lst_eq (P := fun j => srev_l1_c xs (srev_l1 xs j)) (by rw [← hq1]; first | exact h1 | exact not_not_intro h1) hj1
  obtain rfl : (srev_l1 xs (lst fun j => srev_l1_c xs (srev_l1 xs j))).1 = x2 := Eq.symm (congrArg (fun z => z.1) hq1)
  obtain rfl : (srev_l1 xs (lst fun j => srev_l1_c xs (srev_l1 xs j))).2.1 = x3 := Eq.symm (congrArg (fun z => z.2.1) hq1)
  obtain rfl : (srev_l1 xs (lst fun j => srev_l1_c xs (srev_l1 xs j))).2.2 = x0 := Eq.symm (congrArg (fun z => z.2.2) hq1)
  have hS := hScur
  clear hScur
  refine wp_exit (then_exit (then_exit (block_exit ?_)))
  have hM : srev_m xs = (srev_l1 xs (lst fun j => srev_l1_c xs (srev_l1 xs j))).2.2 := srev_e xs
  exact fin_y rfl (.inl rfl) hS [] [(0, some (.sl 5 [.int .u8] ((srev_l1 xs (lst fun j => srev_l1_c xs (srev_l1 xs j))).2.2)))] rfl (by show H1Ok _ [(0, .sl 5 [.int .u8] (srev_m xs))] true; rw [hM]; first | (simp only []; exact ⟨rfl, trivial⟩) | exact ⟨rfl, trivial⟩)

def put64_v (x : Int) : (List Int) := srev_m (little64_m x)
def put64_m (x : Int) : (List Int) := shut (put64_v x)
theorem put64_e (x : Int) : put64_m x = put64_v x := shut_eq _
@[simp] theorem put64_len (x : Int) : (put64_m x).length = 8 := by rw [put64_e]; exact srev_len _ (little64_len _)
def c_put64 (x : Int) : Con := ⟨[.v (.int .u64 x)], [], lb (put64_m x), []⟩
theorem put64_ok (x : Int) : ConOk Tryz.prog 160 (c_put64 x) := by
 refine conOk_of rfl (nb := 0) Tryz.func160 rfl rfl Tryz.ntmps160 rfl rfl rfl fun g0 w0 ac gs ws hg0 hS => ?_
 have hS := hS.sp
 refine s0 [0, 2] [] 0 hS fun hS => ?_
 refine sA [(1, .call ⟨185, (c_little64 x), [], [(0, 0)]⟩)] ⟨little64_ok _, trivial⟩ (fun C => [ndC C 1]) [2, 3] [0] 1 ⟨rfl, trivial⟩ hS fun hS => ?_
 refine sA [(1, .call ⟨186, (c_srev (little64_m x)), [(0, 0)], []⟩)] ⟨srev_ok _ (by first | omega | simp), trivial⟩ (fun C => [ndC C 1]) [2, 3] [0] 1 ⟨rfl, trivial⟩ hS fun hS => ?_
 refine s0 [2] [0] 1 hS fun hS => ?_
 refine wp_ret ?_
 have hM : put64_m x = srev_m (little64_m x) := put64_e x
 obtain ⟨gs, hS⟩ := hS.fz 0
 exact fin_y rfl (.inr rfl) hS [lb (srev_m (little64_m x))] [] (by show weak _ (lb (put64_m x)) = (lb (put64_m x)); rw [hM]; first | (simp only []; rfl) | (simp only []; done) | rfl) trivial

def put32_v (x : Int) : (List Int) := (put64_m (IntKind.wrap .u64 x)).drop 4
def put32_m (x : Int) : (List Int) := shut (put32_v x)
theorem put32_e (x : Int) : put32_m x = put32_v x := shut_eq _
@[simp] theorem put32_len (x : Int) : (put32_m x).length = 4 := by rw [put32_e]; unfold put32_v; rw [List.length_drop, put64_len]
def c_put32 (x : Int) : Con := ⟨[.v (.int .u32 x)], [], lb (put32_m x), []⟩
theorem put32_ok (x : Int) : ConOk Tryz.prog 165 (c_put32 x) := by
 refine conOk_of rfl (nb := 0) Tryz.func165 rfl rfl Tryz.ntmps165 rfl rfl rfl fun g0 w0 ac gs ws hg0 hS => ?_
 have hS := hS.sp
 refine s0 [0, 2] [] 0 hS fun hS => ?_
 refine wp_seq ?_
 have hp := put64_len (IntKind.wrap .u64 x)
 refine rA [(2, .call ⟨160, (c_put64 (IntKind.wrap .u64 x)), [], []⟩)] ⟨put64_ok _, trivial⟩ (fun C => [ndC C 2, bndP (some 4) none none (put64_m (IntKind.wrap .u64 x)).length (put64_m (IntKind.wrap .u64 x)).length]) [2] [] 0 ⟨rfl, ⟨by simp only [nnI] <;> omega, by simp only [nnI] <;> omega, by simp only [nnI] <;> omega, by simp, by simp only [bl] <;> omega, by simp only [bl] <;> omega, by simp only [bl] <;> omega⟩, trivial⟩ hS fun hS => ?_
 refine then_n (wp_ret ?_)
 have hM : put32_m x = (put64_m (IntKind.wrap .u64 x)).drop 4 := put32_e x
 exact fin_y rfl (.inr rfl) hS [lb ((put64_m (IntKind.wrap .u64 x)).drop 4)] [] (by show weak _ (lb (put32_m x)) = (lb (put32_m x)); rw [hM]; first | (simp only []; rfl) | (simp only []; done) | rfl) trivial

def get64_l1_s (xs : List Int) (x4 : Nat) : Int → Int := fun x2 => if (x4 : Int) < ((xs.length : Nat) : Int) then (ior .u64 (ishl .u64 x2 8) (IntKind.wrap .u64 (xs.getD x4 0))) else (ishl .u64 x2 8)
def get64_l1 (xs : List Int) : Nat → Int
 | 0 => 0
 | x4 + 1 => get64_l1_s xs x4 (get64_l1 xs x4)
def get64_v (xs : List Int) : Int := (get64_l1 xs 8)
def get64_m (xs : List Int) : Int := shut (get64_v xs)
theorem get64_e (xs : List Int) : get64_m xs = get64_v xs := shut_eq _
def c_get64 (xs : List Int) : Con := ⟨[lb xs], [], .v (.int .u64 (get64_m xs)), []⟩
theorem get64_ok (xs : List Int) : ConOk Tryz.prog 206 (c_get64 xs) := by
 refine conOk_of rfl (nb := 0) Tryz.func206 rfl rfl Tryz.ntmps206 rfl rfl rfl fun g0 w0 ac gs ws hg0 hS => ?_
 have hlen0 : xs.length ≤ 9223372036854775807 := hS.len 0 rfl
 have hS := hS.sp
 refine s0 [0, 2] [] 0 hS fun hS => ?_
 refine wp_seq (s0 [0, 2, 4] [] 0 hS fun hS => ?_)
 refine wp_block (loop_y (ι := Nat × Int) hg0 hS (fun z_ => match z_ with | (x4, x2) => 8 - x4) (fun z_ => match z_ with | (x4, x2) => [(0, lb xs), (2, .v (.int .u64 x2)), (4, vi ((x4 : Nat) : Int))]) (fun z_ => match z_ with | (x4, x2) => []) (fun z_ => match z_ with | (x4, x2) => (x4 ≤ 8) ∧ (x2 = get64_l1 xs x4) ∧ True) 0 (0, 0) [] ⟨omm, rfl, trivial⟩ ?_)
 rintro ⟨x4, x2⟩ ac gs ws ⟨hx4, hq1, _⟩ hS
 refine s0 [0, 2, 4, 5] [] 0 hS fun hS => ?_
 refine wp_seq ?_
 refine if_d ((x4 : Int) < 8) hS (fun h1 => ?_) (fun h1 => ?_)
 ·refine wp_skip (then_n (wp_seq (wp_block (s0 [0, 2, 3, 4] [] 0 hS fun hS => ?_))))
  refine sA [] trivial (fun _ => [(0 : Int) ≤ 8]) [0, 2, 3, 4] [] 0 ⟨by omega, trivial⟩ hS fun hS => ?_
  refine s0 [0, 2, 3, 4, 12] [] 0 hS fun hS => ?_
  refine if_d ((x4 : Int) < ((xs.length : Nat) : Int)) hS (fun h2 => ?_) (fun h2 => ?_)
  ·refine rA [] trivial (fun _ => [(0 : Int) ≤ (x4 : Int) ∧ (x4 : Int) < ((xs.length : Nat) : Int)]) [0, 2, 4] [] 0 ⟨by omega, trivial⟩ hS fun hS => ?_
   refine block_n (then_n (rA [(0, .oi ((x4 + 1 : Nat) : Int))] trivial (fun _ => [iadd .i64 (x4 : Int) 1 = ((x4 + 1 : Nat) : Int)]) [0, 2, 4] [] 0 ⟨by rw [iadd64 omm omm]; omega, trivial⟩ hS fun hS => ?_))
   refine then_n ?_
   exact next_y hg0 hS (s := (x4, x2)) (x4 + 1, (ior .u64 (ishl .u64 x2 8) (IntKind.wrap .u64 (xs.getD x4 0)))) [] (show 8 - (x4 + 1) < 8 - x4 from by omega) ⟨omm, (it_next (F := get64_l1 xs) (st := get64_l1_s xs) (fun _ => rfl) hq1 (Eq.symm (if_pos h2))), trivial⟩
  ·refine wp_skip (block_n (then_n (rA [(0, .oi ((x4 + 1 : Nat) : Int))] trivial (fun _ => [iadd .i64 (x4 : Int) 1 = ((x4 + 1 : Nat) : Int)]) [0, 2, 4] [] 0 ⟨by rw [iadd64 omm omm]; omega, trivial⟩ hS fun hS => ?_)))
   refine then_n ?_
   exact next_y hg0 hS (s := (x4, x2)) (x4 + 1, (ishl .u64 x2 8)) [] (show 8 - (x4 + 1) < 8 - x4 from by omega) ⟨omm, (it_next (F := get64_l1 xs) (st := get64_l1_s xs) (fun _ => rfl) hq1 (Eq.symm (if_neg h2))), trivial⟩
 ·have hScur := hS
  obtain rfl : 8 = x4 := by omega
  obtain rfl : get64_l1 xs 8 = x2 := Eq.symm (congrArg (fun z => z) hq1)
  have hS := hScur
  clear hScur
  refine wp_exit (then_exit (then_exit (block_exit (then_n (s0 [2] [] 0 hS fun hS => ?_)))))
  refine wp_ret ?_
  have hM : get64_m xs = (get64_l1 xs 8) := get64_e xs
  exact fin_y rfl (.inr rfl) hS [.v (.int .u64 (get64_l1 xs 8))] [] (by show weak _ (.v (.int .u64 (get64_m xs))) = (.v (.int .u64 (get64_m xs))); rw [hM]; first | (simp only []; rfl) | (simp only []; done) | rfl) trivial

def get32_v (xs : List Int) : Int := (IntKind.wrap .u32 (ishr .u64 (get64_m xs) 32))
def get32_m (xs : List Int) : Int := shut (get32_v xs)
theorem get32_e (xs : List Int) : get32_m xs = get32_v xs := shut_eq _
def c_get32 (xs : List Int) : Con := ⟨[lb xs], [], .v (.int .u32 (get32_m xs)), []⟩
theorem get32_ok (xs : List Int) : ConOk Tryz.prog 190 (c_get32 xs) := by
 refine conOk_of rfl (nb := 0) Tryz.func190 rfl rfl Tryz.ntmps190 rfl rfl rfl fun g0 w0 ac gs ws hg0 hS => ?_
 have hlen0 : xs.length ≤ 9223372036854775807 := hS.len 0 rfl
 have hS := hS.sp
 refine s0 [0, 2] [] 0 hS fun hS => ?_
 refine sA [(1, .call ⟨206, (c_get64 xs), [], []⟩)] ⟨get64_ok _, trivial⟩ (fun C => [ndC C 1, (0 : Int) ≤ 32]) [2] [] 0 ⟨rfl, by omega, trivial⟩ hS fun hS => ?_
 refine wp_ret ?_
 have hM : get32_m xs = (IntKind.wrap .u32 (ishr .u64 (get64_m xs) 32)) := get32_e xs
 exact fin_y rfl (.inr rfl) hS [.v (.int .u32 (IntKind.wrap .u32 (ishr .u64 (get64_m xs) 32)))] [] (by show weak _ (.v (.int .u32 (get32_m xs))) = (.v (.int .u32 (get32_m xs))); rw [hM]; first | (simp only []; rfl) | (simp only []; done) | rfl) trivial

def first_v (xs : List Int) (n : Nat) : (List Int) := xs.take (List.replicate n (0 : Int)).length ++ (List.replicate n (0 : Int)).drop xs.length
def first_m (xs : List Int) (n : Nat) : (List Int) := shut (first_v xs n)
theorem first_e (xs : List Int) (n : Nat) : first_m xs n = first_v xs n := shut_eq _
def c_first (xs : List Int) (n : Nat) : Con := ⟨[lb xs, vi (n : Int)], [], .sk 0, [(0, .sl 5 [.int .u8] (first_m xs n))]⟩
theorem first_ok (xs : List Int) (n : Nat) (hn : n ≤ 100000000) : ConOk Tryz.prog 184 (c_first xs n) := by
 refine conOk_of rfl (nb := 0) Tryz.func184 rfl rfl Tryz.ntmps184 rfl rfl rfl fun g0 w0 ac gs ws hg0 hS => ?_
 have hlen0 : xs.length ≤ 9223372036854775807 := hS.len 0 rfl
 have hS := hS.sp
 refine s0 [0, 1, 4] [] 0 hS fun hS => ?_
 refine sA [] trivial (fun _ => [((n : Int) : Int) = (n : Int), (0 : Int) ≤ (n : Int), 1 * n ≤ 281474976710656, ((n : Int) : Int) ≤ 9223372036854775807]) [0, 4, 5] [0] 1 ⟨rfl, by omega, by omega, by omega, trivial⟩ hS fun hS => ?_
 refine s0 [4, 5] [0] 1 hS fun hS => ?_
 refine s0 [4] [0] 1 hS fun hS => ?_
 refine wp_ret ?_
 have hM : first_m xs n = xs.take (List.replicate n (0 : Int)).length ++ (List.replicate n (0 : Int)).drop xs.length := first_e xs n
 exact fin_y rfl (.inr rfl) hS [.sk 0] [(0, some (.sl 5 [.int .u8] (xs.take (List.replicate n (0 : Int)).length ++ (List.replicate n (0 : Int)).drop xs.length)))] rfl (by show H1Ok _ [(0, .sl 5 [.int .u8] (first_m xs n))] true; rw [hM]; first | (simp only []; exact ⟨rfl, trivial⟩) | exact ⟨rfl, trivial⟩)

def xor_l1_s (xs ys : List Int) (x15 : Nat) : (List Int) → (List Int) := fun x5 => x5.set x15 (ixor .u8 (xs.getD x15 0) (ys.getD x15 0))
def xor_l1 (xs ys : List Int) : Nat → (List Int)
 | 0 => List.replicate (min xs.length ys.length) (0 : Int)
 | x15 + 1 => xor_l1_s xs ys x15 (xor_l1 xs ys x15)
def xor_v (xs ys : List Int) : (List Int) := xor_l1 xs ys (min xs.length ys.length)
def xor_m (xs ys : List Int) : (List Int) := shut (xor_v xs ys)
theorem xor_e (xs ys : List Int) : xor_m xs ys = xor_v xs ys := shut_eq _
def c_xor (xs ys : List Int) : Con := ⟨[lb xs, lb ys], [], .sk 0, [(0, .sl 5 [.int .u8] (xor_m xs ys))]⟩
theorem xor_ok (xs ys : List Int) (hn : xs.length ≤ 100000000) : ConOk Tryz.prog 159 (c_xor xs ys) := by
 refine conOk_of rfl (nb := 0) Tryz.func159 rfl rfl Tryz.ntmps159 rfl rfl rfl fun g0 w0 ac gs ws hg0 hS => ?_
 have hlen0 : xs.length ≤ 9223372036854775807 := hS.len 0 rfl
 have hlen1 : ys.length ≤ 9223372036854775807 := hS.len 1 rfl
 have hS := hS.sp
 refine s0 [0, 1, 4] [] 0 hS fun hS => ?_
 refine sA [(4, .oi ((min xs.length ys.length : Nat) : Int))] trivial (fun _ => [(if ((ys.length : Nat) : Int) < ((xs.length : Nat) : Int) then ((ys.length : Nat) : Int) else ((xs.length : Nat) : Int)) = ((min xs.length ys.length : Nat) : Int), (((min xs.length ys.length : Nat) : Int) : Int) = ((min xs.length ys.length : Nat) : Int), (0 : Int) ≤ ((min xs.length ys.length : Nat) : Int), 1 * (min xs.length ys.length) ≤ 281474976710656, (((min xs.length ys.length : Nat) : Int) : Int) ≤ 9223372036854775807]) [0, 1, 4, 5] [0] 1 ⟨by split <;> omega, rfl, by omega, by omega, by omega, trivial⟩ hS fun hS => ?_
 refine wp_seq (sA [(1, .oi ((min xs.length ys.length : Nat) : Int))] trivial (fun _ => [(((List.replicate (min xs.length ys.length) (0 : Int)).length : Nat) : Int) = ((min xs.length ys.length : Nat) : Int)]) [0, 1, 4, 5, 14, 15] [0] 1 ⟨by rw [List.length_replicate], trivial⟩ hS fun hS => ?_)
 refine wp_block (loop_y (ι := Nat × (List Int)) hg0 hS (fun z_ => match z_ with | (x15, x5) => min xs.length ys.length - x15) (fun z_ => match z_ with | (x15, x5) => [(0, lb xs), (1, lb ys), (4, .v (.slice none 0 0)), (5, .sk 0), (14, vi ((min xs.length ys.length : Nat) : Int)), (15, vi ((x15 : Nat) : Int))]) (fun z_ => match z_ with | (x15, x5) => [(0, .sl 5 [.int .u8] x5)]) (fun z_ => match z_ with | (x15, x5) => (x15 ≤ min xs.length ys.length) ∧ (x5 = xor_l1 xs ys x15) ∧ (x5.length = min xs.length ys.length) ∧ True) 1 (0, List.replicate (min xs.length ys.length) (0 : Int)) [(0, 0)] ⟨omm, rfl, (by simp), trivial⟩ ?_)
 rintro ⟨x15, x5⟩ ac gs ws ⟨hx15, hq1, p1, _⟩ hS
 refine s0 [0, 1, 4, 5, 14, 15, 16] [0] 1 hS fun hS => ?_
 refine wp_seq ?_
 refine if_d ((x15 : Int) < ((min xs.length ys.length : Nat) : Int)) hS (fun h1 => ?_) (fun h1 => ?_)
 ·refine wp_skip (then_n (wp_seq (wp_block (s0 [0, 1, 4, 5, 6, 14, 15] [0] 1 hS fun hS => ?_))))
  refine rA [] trivial (fun _ => [(0 : Int) ≤ (x15 : Int) ∧ (x15 : Int) < ((xs.length : Nat) : Int), (0 : Int) ≤ (x15 : Int) ∧ (x15 : Int) < ((ys.length : Nat) : Int), (0 : Int) ≤ (x15 : Int) ∧ (x15 : Int) < ((x5.length : Nat) : Int)]) [0, 1, 4, 5, 14, 15] [0] 1 ⟨by omega, by omega, by omega, trivial⟩ hS fun hS => ?_
  refine block_n (then_n (rA [(0, .oi ((x15 + 1 : Nat) : Int))] trivial (fun _ => [iadd .i64 (x15 : Int) 1 = ((x15 + 1 : Nat) : Int)]) [0, 1, 4, 5, 14, 15] [0] 1 ⟨by rw [iadd64 omm omm]; omega, trivial⟩ hS fun hS => ?_))
  refine then_n ?_
  exact next_y hg0 hS (s := (x15, x5)) (x15 + 1, x5.set x15 (ixor .u8 (xs.getD x15 0) (ys.getD x15 0))) [(0, 0)] (show min xs.length ys.length - (x15 + 1) < min xs.length ys.length - x15 from by omega) ⟨omm, (it_next (F := xor_l1 xs ys) (st := xor_l1_s xs ys) (fun _ => rfl) hq1 rfl), (by rw [List.length_set]; exact p1), trivial⟩
 ·have hScur := hS
  obtain rfl : min xs.length ys.length = x15 := by omega
  obtain rfl : xor_l1 xs ys (min xs.length ys.length) = x5 := Eq.symm (congrArg (fun z => z) hq1)
  have hS := hScur
  clear hScur
  refine wp_exit (then_exit (then_exit (block_exit (then_n (s0 [4] [0] 1 hS fun hS => ?_)))))
  refine wp_ret ?_
  have hM : xor_m xs ys = xor_l1 xs ys (min xs.length ys.length) := xor_e xs ys
  exact fin_y rfl (.inr rfl) hS [.sk 0] [(0, some (.sl 5 [.int .u8] (xor_l1 xs ys (min xs.length ys.length))))] rfl (by show H1Ok _ [(0, .sl 5 [.int .u8] (xor_m xs ys))] true; rw [hM]; first | (simp only []; exact ⟨rfl, trivial⟩) | exact ⟨rfl, trivial⟩)

end
end Go.Sx.Tryz
