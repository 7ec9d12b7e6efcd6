/- Acts that a law is given, and what laws ask of a run. General lemmas. -/
import Derived.Test.YtoefhjabaanokaaDoorD9
set_option linter.unusedSimpArgs false
set_option linter.unusedVariables false
set_option linter.unnecessarySimpa false
namespace Go.Mi.Term
open Go.Mi Go.Proofs Go.RowKit
structure Ac where
 k : Int
 who : Int
 kem : Bool
def acv (a : Ac) : List Value := [vI a.k, vI a.who, .bool a.kem]
def acL (l : List Ac) : List Value := l.flatMap acv
theorem acL_at : ∀ {l : List Ac} {j : Nat} {p : Ac}, l[j]? = some p → ((acL l).drop (j * 3)).take (acv p).length = acv p
 | [], j, p, h => by simp at h
 | c :: l, 0, p, h => by simp at h; subst h; simp [acL, acv]
 | c :: l, j + 1, p, h => by
  have := acL_at (l := l) (j := j) (p := p) (by simpa using h)
  rw [Nat.add_mul, Nat.one_mul, show j * 3 + 3 = ((j * 3 + 1) + 1) + 1 by omega]
  simpa [acL, acv] using this
theorem TT.own {g g' : Gh} {w w' : World} {b : Nat} (k : TT g w g' w') (h : b ∉ g.F ++ g.M) (hb : b < w.heap.size) : b ∉ g'.F ++ g'.M := fun hm => by
 rcases k.sub b hm with h' | h'
 ·exact h h'
 ·omega
abbrev acS (l : List Ac) : Sp TT := .pr ⟨fun g w v => (∃ ad cap, v = .slice ad 0 cap ∧ l = []) ∨ ∃ b o cap, v = .slice (some ⟨b, o, none⟩) l.length cap ∧ b ∉ g.F ++ g.M ∧ b < w.heap.size ∧ At w b o (acL l), fun h k => by
 rcases h with h | ⟨b, o, cap, h1, h2, h3, h4⟩
 ·exact .inl h
 ·exact .inr ⟨b, o, cap, h1, k.own h2 h3, Nat.lt_of_lt_of_le h3 k.ch.size, h4.mv k.ch h2⟩⟩
abbrev apS (a : Ac) (j : Nat) : Sp TT := .pr ⟨fun g w v => ∃ b o, v = vP b (o + j) ∧ b ∉ g.F ++ g.M ∧ b < w.heap.size ∧ At w b o (acv a), fun ⟨b, o, h1, h2, h3, h4⟩ k => ⟨b, o, h1, k.own h2 h3, Nat.lt_of_lt_of_le h3 k.ch.size, h4.mv k.ch h2⟩⟩
abbrev ksS (ks : List Ky) : Sp TT := .pr ⟨fun g w v => ∃ xs, SlA w g.X v ks.length xs ∧ AllIs (KyIs w g.X) ks xs, fun ⟨xs, h1, h2⟩ k => ⟨xs, h1.mv k.ch (Gh.sub _) k.X, AllIs.imp (fun _ _ h => KyIs.mv h k.ch (Gh.sub _) k.X) h2⟩⟩
section
set_option maxRecDepth 100000
variable {ops : List Oper} {n : Nat} {B : Nat → BX XX} {i p b k o base : Nat} {L : TL TT} {ph : List Nat} {ρ : RX} {ns : List (Nat × Sp TT)} {ds : Option Tmp} {ty : TypeId} {pos : String} {af : Array Edge} {gu : Option (Nat × Bool)} {t : TypeId} {x y z : Operand} {κ : RY} {r : Rn} {l : List Ac} {a : Ac}
theorem q_acLen (hop : ops.getD i default = ⟨ds, .call ⟨.builtin .len, #[x], #[51]⟩, t, pos, af, gu⟩) (hx : spO L x = some (acS l)) : EOb Tryd.prog n ops XX B ⟨i, L, eqS (vI l.length), ph, false⟩ p := q_val fun ξ g w hB hH => by
 rw [hop]
 obtain ⟨v, h1, ⟨ad, cap, rfl, rfl⟩ | ⟨b, o, cap, rfl, _⟩⟩ := spO_ev hx hH
 ·exact ⟨_, rfl, d_len_slice Tryd.underlying51 h1⟩
 ·exact ⟨_, rfl, d_len_slice Tryd.underlying51 h1⟩
theorem q_acIx {j : Nat} (hop : ops.getD i default = ⟨ds, .indexAddr 51 x y, t, pos, af, gu⟩) (hx : spO L x = some (acS l)) (hy : spO L y = some (eqS (vI j))) (ha : l[j]? = some a) : EOb Tryd.prog n ops XX B ⟨i, L, apS a 0, ph, false⟩ p := q_val fun ξ g w hB hH => by
 rw [hop]
 obtain ⟨v, h1, ⟨ad, cap, rfl, rfl⟩ | ⟨b, o, cap, rfl, h2, h3, h4⟩⟩ := spO_ev hx hH
 ·simp at ha
 ·exact ⟨_, ⟨b, o + j * 3, rfl, h2, h3, h4.part (j * 3) (acL_at ha)⟩, d_ixSm Tryd.underlying51 sz52 h1 (spO_eq hy) rfl (lt_of_atT ha)⟩
theorem q_acF {f m q : Nat} {fs : Array Field} {fd : Field} (hop : ops.getD i default = ⟨ds, .fieldAddr 52 x f, t, pos, af, gu⟩) (hx : spO L x = some (apS a 0)) (hs : (Tryd.prog.info? fd.type).map (·.size) = some (m + 1)) (hu : Tryd.prog.underlying 52 = some (.struct fs)) (hf : fs[f]? = some fd) (hq : fd.offset = q) : EOb Tryd.prog n ops XX B ⟨i, L, apS a q, ph, false⟩ p := q_val fun ξ g w hB hH => by
 rw [hop]
 obtain ⟨v, h1, b, o, rfl, h2⟩ := spO_ev hx hH
 exact ⟨_, ⟨b, o, rfl, h2⟩, d_fieldAddrQ hu hs hf h1 (by rw [hq]; rfl)⟩
theorem q_acL {j : Nat} {d : TypeDesc} {v : Value} (hop : ops.getD i default = ⟨ds, .load ty x, t, pos, af, gu⟩) (hx : spO L x = some (apS a j)) (ht : Tryd.prog.underlying ty = some d) (hf : TypeDesc.flat d = true) (hv : (acv a)[j]? = some v) : EOb Tryd.prog n ops XX B ⟨i, L, eqS v, ph, false⟩ p := q_val fun ξ g w hB hH => by
 rw [hop]
 obtain ⟨u, h1, b, o, rfl, _, _, h4⟩ := spO_ev hx hH
 exact ⟨v, rfl, d_load1 ht hf h1 (h4 j v hv)⟩
theorem q_neqBB {c : Bool} {t' : TypeId} (hop : ops.getD i default = ⟨ds, .binOp .neq 4 x y t', t, pos, af, gu⟩) (hx : spO L x = some (eqS (.bool c))) (hy : spO L y = some (eqS (.bool c))) : EOb Tryd.prog n ops XX B ⟨i, L, eqS (.bool false), ph, false⟩ p := q_val fun ξ g w hB hH => by
 rw [hop]
 have h := d_neqB (P := Tryd.prog) (n := n) (w := w) (ds := ds) (ty := t) (pos := pos) (af := af) (gu := gu) (t := 4) (t' := t') Tryd.underlying4 (spO_eq (ξ := ξ) hx) (spO_eq (ξ := ξ) hy)
 simp at h
 exact ⟨_, rfl, h⟩
theorem q_eqBB {c c' : Bool} {t' : TypeId} (hop : ops.getD i default = ⟨ds, .binOp .eql 4 x y t', t, pos, af, gu⟩) (hx : spO L x = some (eqS (.bool c'))) (hy : spO L y = some (eqS (.bool c))) (hc : (c' == c) = false) : EOb Tryd.prog n ops XX B ⟨i, L, eqS (.bool false), ph, false⟩ p := q_val fun ξ g w hB hH => by
 rw [hop]
 have h := d_eqlB (P := Tryd.prog) (n := n) (w := w) (ds := ds) (ty := t) (pos := pos) (af := af) (gu := gu) (t := 4) (t' := t') Tryd.underlying4 (spO_eq (ξ := ξ) hx) (spO_eq (ξ := ξ) hy)
 rw [hc] at h
 exact ⟨_, rfl, h⟩
theorem m_doT {kd wh : Int} {c : Bool} {r' : Rn} {ts : Array TypeId} (hg : Good r) (hr : r.doAct kd wh c = r') (hB0 : B p = stB (lawR κ base b r) ns) (hB1 : B (p + 1) = stB (lawR κ base b r') ns) (hop : ops.getD i default = ⟨ds, .call ⟨.value (.func 27), #[x, y], ts⟩, t, pos, af, gu⟩) (hx : spO L x = some (eqS (vp b))) (hy : spO L y = some (agS (cxV [vI kd, vI wh, .bool c]))) : EOb Tryd.prog n ops XX B ⟨i, L, topS, ph, true⟩ p := by
 intro ξ g w hB hH
 subst hr
 obtain h := m_do (κ := κ) (n := n) (ph := ph) (L := L) hg hB0 hB1 hop hx hy rfl ξ g w hB hH
 exact h.mono fun v w' ⟨g', k1, _⟩ => ⟨g', k1, trivial⟩
theorem q_keys {ts : Array TypeId} (hg : Good r) (hB0 : B p = stB (lawR κ base b r) ns) (hop : ops.getD i default = ⟨ds, .call ⟨.value (.func 30), #[x], ts⟩, t, pos, af, gu⟩) (hx : spO L x = some (eqS (vp b))) : EOb Tryd.prog n ops XX B ⟨i, L, ksS r.keys, ph, false⟩ p := q_of fun ξ g w hB hH => by
 rw [hB0] at hB
 have hB : StB (lawR κ base b r) ns g w := hB
 rw [hop]
 have s := hg.small
 exact ok_call c30 (by simp only [evs, spO_eq hx]) (keys_ok w hB.wf.lt hB.run.2.2.2.2 lawSub s.h0 (by have := s.hy; omega) fun e he => (hg.sz.ky e he).fw)
theorem q_ksLen {ks : List Ky} (hop : ops.getD i default = ⟨ds, .call ⟨.builtin .len, #[x], #[53]⟩, t, pos, af, gu⟩) (hx : spO L x = some (ksS ks)) : EOb Tryd.prog n ops XX B ⟨i, L, eqS (vI ks.length), ph, false⟩ p := q_val fun ξ g w hB hH => by
 rw [hop]
 obtain ⟨v, h1, xs, h2, _⟩ := spO_ev hx hH
 obtain ⟨ad, cap, rfl, _⟩ := h2.form
 exact ⟨_, rfl, d_len_slice Tryd.underlying53 h1⟩
end
theorem kinds (k : Int) : k = 1 ∨ (¬k = 1 ∧ k = 2) ∨ (¬k = 1 ∧ ¬k = 2) := by omega
def Rn.qt (kem : Bool) (r : Rn) (n : Nat) : Prop := r.acts ≤ n ∧ (∀ c ∈ r.behind, c = false) ∧ r.rvd = [] ∧ (∀ e ∈ r.eps, e.kem = kem ∧ e.dhs ≠ [] ∧ e.rev = false) ∧ r.dh = false ∧ r.kem = false
theorem Rn.qt.last {kem : Bool} {r : Rn} {n : Nat} (h : r.qt kem n) : r.last.rev = false := by
 unfold Rn.last
 rw [List.getD_eq_getElem?_getD]
 cases he : r.eps[r.eps.length - 1]? with
 | none => rfl
 | some e => exact (h.2.2.2.1 e (List.mem_of_getElem? he)).2.2
theorem qt_new (kem : Bool) : (Rn.new kem).qt kem 0 := by cases kem <;> exact ⟨Nat.le_refl _, by decide, rfl, by decide, rfl, rfl⟩
theorem Rn.qt.act {kem : Bool} {r : Rn} {n : Nat} (h : r.qt kem n) {k who : Int} (hk : k = 1 ∨ k = 2) : (r.doAct k who kem).qt kem (n + 1) := by
 obtain ⟨h1, h2, h3, h4, h5, h6⟩ := h
 rcases r.doAct_eq k who kem with ⟨_, e⟩ | ⟨_, _, ⟨j, _, _, _, e⟩ | ⟨j, _, _, _, e⟩ | ⟨_, _, _, hk3, _⟩ | ⟨hk3, _⟩ | ⟨hk3, _⟩⟩
 ·rw [e]; exact ⟨by omega, h2, h3, h4, h5, h6⟩
 ·rw [e]
  refine ⟨Nat.succ_le_succ h1, fun c hc => ?_, h3, h4, h5, h6⟩
  rcases List.mem_append.1 hc with hc | hc
  ·exact h2 c hc
  ·rw [List.mem_singleton.1 hc]; exact Rn.qt.last (r := r.count) (n := n + 1) (kem := kem) ⟨Nat.succ_le_succ h1, h2, h3, h4, h5, h6⟩
 ·rw [e]
  cases kem with
  | true =>
   refine ⟨Nat.succ_le_succ h1, h2, h3, fun e he => ?_, h5, h6⟩
   rcases List.mem_append.1 he with he | he
   ·exact h4 e he
   ·rw [List.mem_singleton.1 he]; exact ⟨rfl, by simp, rfl⟩
  | false =>
   refine ⟨Nat.succ_le_succ h1, h2, h3, fun e he => ?_, h5, h6⟩
   rcases List.mem_append.1 he with he | he
   ·exact h4 e he
   ·rw [List.mem_singleton.1 he]; exact ⟨rfl, by simp, rfl⟩
 all_goals omega
def hyR (kem : Bool) (l : List Ac) (i : Nat) : Rn := (l.take i).foldl (fun r a => if a.k = 1 ∨ a.k = 2 then r.doAct a.k (a.who % 2) kem else r) (Rn.new kem)
theorem hyR_yes {kem : Bool} {l : List Ac} {i : Nat} {a : Ac} (h : l[i]? = some a) (hk : a.k = 1 ∨ a.k = 2) : (hyR kem l i).doAct a.k (a.who % 2) kem = hyR kem l (i + 1) := by
 simp only [hyR, take_next h, List.foldl_append, List.foldl_cons, List.foldl_nil, if_pos hk]
theorem hyR_no {kem : Bool} {l : List Ac} {i : Nat} {a : Ac} (h : l[i]? = some a) (hk : ¬(a.k = 1 ∨ a.k = 2)) : hyR kem l i = hyR kem l (i + 1) := by
 simp only [hyR, take_next h, List.foldl_append, List.foldl_cons, List.foldl_nil, if_neg hk]
theorem hyG (kem : Bool) (l : List Ac) (i : Nat) : Good (hyR kem l i) := by
 have key : ∀ (l : List Ac) (r : Rn), Good r → Good (l.foldl (fun r a => if a.k = 1 ∨ a.k = 2 then r.doAct a.k (a.who % 2) kem else r) r) := by
  intro l
  induction l with
  | nil => exact fun r h => h
  | cons a l ih =>
   intro r h
   simp only [List.foldl_cons]
   refine ih _ ?_
   split
   ·exact h.doAct _ _ _
   ·exact h
 exact key _ _ (Good.new kem)
theorem hyQ (kem : Bool) (l : List Ac) : (hyR kem l l.length).qt kem l.length := by
 have key : ∀ (l : List Ac) (r : Rn) (n : Nat), r.qt kem n → (l.foldl (fun r a => if a.k = 1 ∨ a.k = 2 then r.doAct a.k (a.who % 2) kem else r) r).qt kem (n + l.length) := by
  intro l
  induction l with
  | nil => exact fun r n h => h
  | cons a l ih =>
   intro r n h
   simp only [List.foldl_cons, List.length_cons]
   rw [show n + (l.length + 1) = (n + 1) + l.length by omega]
   refine ih _ _ ?_
   split
   ·rename_i hk; exact h.act hk
   ·exact ⟨by have := h.1; omega, h.2⟩
 have := key l _ _ (qt_new kem)
 simpa [hyR] using this
def brk (c : Bool) (r : Rn) (k : Int) : Rn := bif c then r.doAct k 0 false else r
theorem brkG {r : Rn} (c : Bool) (k : Int) (h : Good r) : Good (brk c r k) := by
 cases c with
 | true => exact h.doAct _ _ _
 | false => exact h
def hyE (kem dh broken : Bool) (l : List Ac) : Rn := brk broken (brk dh (hyR kem l l.length) 4) 5
theorem hyEG (kem dh broken : Bool) (l : List Ac) : Good (hyE kem dh broken l) := brkG _ _ (brkG _ _ (hyG _ _ _))
def safe (kem dh broken : Bool) : Bool := !dh || (kem && !broken)
theorem brk4 {r : Rn} {kem c : Bool} {n : Nat} (h : r.qt kem n) (hn : n < 60) : brk c r 4 = { r with acts := (brk c r 4).acts, dh := c } ∧ (brk c r 4).acts ≤ n + 1 := by
 have h1 := h.1
 cases c with
 | false => exact ⟨by show r = { r with acts := r.acts, dh := false }; rw [← h.2.2.2.2.1], by show r.acts ≤ n + 1; omega⟩
 | true =>
  have hr : r.refuses 4 0 = false := by simp [Rn.refuses]; omega
  have e : brk true r 4 = { r.count with dh := true } := by show r.doAct 4 0 false = _; unfold Rn.doAct; rw [hr, if_neg (by simp)]; rfl
  rw [e]
  exact ⟨rfl, Nat.succ_le_succ h1⟩
theorem brk5 {r : Rn} {c : Bool} {n : Nat} (h1 : r.acts ≤ n) (hk : r.kem = false) (hn : n < 60) : ∃ a, brk c r 5 = { r with acts := a, kem := c } := by
 cases c with
 | false => exact ⟨r.acts, by show r = { r with acts := r.acts, kem := false }; rw [← hk]⟩
 | true =>
  have hr : r.refuses 5 0 = false := by simp [Rn.refuses]; omega
  exact ⟨r.acts + 1, by show r.doAct 5 0 false = _; unfold Rn.doAct; rw [hr, if_neg (by simp)]; rfl⟩
theorem hyE_clean {kem dh broken : Bool} {l : List Ac} (hl : l.length ≤ 12) {k : Nat} (hk : k < (hyE kem dh broken l).keys.length) : (hyE kem dh broken l).cleanZ (k : Int) = safe kem dh broken := by
 have hq := hyQ kem l
 have hG := hyEG kem dh broken l
 obtain ⟨e1, ha⟩ := brk4 (c := dh) hq (by omega)
 obtain ⟨a, e2⟩ := brk5 (r := brk dh (hyR kem l l.length) 4) (c := broken) ha (by rw [e1]; exact hq.2.2.2.2.2) (by omega)
 have e2 : hyE kem dh broken l = { brk dh (hyR kem l l.length) 4 with acts := a, kem := broken } := e2
 rw [e1] at e2
 generalize hyE kem dh broken l = r at *
 generalize hyR kem l l.length = r0 at *
 obtain ⟨p1, _, _, _, p5, p6⟩ := hG.pre
 obtain ⟨q1, q2, q3, q4, q5, q6⟩ := hq
 have hb : ∀ c ∈ r.behind, c = false := by rw [e2]; exact q2
 have i : r.rvd = [] := by rw [e2]; exact q3
 have d : ∀ e ∈ r.eps, e.kem = kem ∧ e.dhs ≠ [] ∧ e.rev = false := by rw [e2]; exact q4
 have m : r.dh = dh := by rw [e2]
 have h : r.kem = broken := by rw [e2]
 clear e2
 have b : ∀ j, j < r.eps.length → r.inputB (r.eps.getD j ⟨[], false, false⟩) = !safe kem dh broken := by
  intro j hj
  rw [List.getD_eq_getElem?_getD, List.getElem?_eq_getElem hj]
  obtain ⟨k1, k2, _⟩ := d _ (List.getElem_mem hj)
  have : ((r.eps[j]).dhs.all fun p => !decide (itl r.rvd p.1 + itl r.rvd p.2 = 0)) = false := by
   rw [i]
   cases hd : (r.eps[j]).dhs with
   | nil => exact absurd hd k2
   | cons x y => simp [itl]
  simp only [Option.getD_some, Rn.inputB, k1, this, m, h, safe]
  cases kem <;> cases dh <;> cases broken <;> rfl
 have f : ∀ j, j < r.eps.length → r.wholeB j = !safe kem dh broken := by
  intro j
  induction j with
  | zero => intro hj; exact b 0 hj
  | succ j ih =>
   intro hj
   have h1 := ih (by omega)
   have h2 : (r.eps.getD j ⟨[], false, false⟩).rev = false := by
    rw [List.getD_eq_getElem?_getD, List.getElem?_eq_getElem (by omega)]
    exact (d _ (List.getElem_mem _)).2.2
   simp only [Rn.wholeB, b _ hj, h1, h2, Bool.false_or, Bool.and_self]
 unfold Rn.cleanZ
 rw [if_pos ⟨by omega, by omega⟩]
 have g : r.behind.getD k false = false := by
  rw [List.getD_eq_getElem?_getD, List.getElem?_eq_getElem (by omega)]
  exact hb _ (List.getElem_mem _)
 simp only [Int.toNat_natCast, Rn.cleanB, g, Bool.not_false, Bool.true_and]
 rw [List.getD_eq_getElem?_getD, List.getElem?_eq_getElem hk, Option.getD_some, f _ (p6 _ (List.getElem_mem hk)), Bool.not_not]
end Go.Mi.Term
