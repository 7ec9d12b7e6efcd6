/- General lemmas, walks. -/
import Derived.Recover
import Derived.LoopN
import Derived.Test.YtmkplecnmklbfaaGreatProg
import Derived.Test.YtmkplecnmklbfaaGreatJ2PRow
set_option linter.unusedSimpArgs false
set_option linter.unusedVariables false
set_option linter.unnecessarySimpa false
set_option linter.unusedSectionVars false
namespace Go.Sx
open Go.Mi Go.RowKit
variable [Dfr]
def nofz : D → Bool
 | .v _ => true
 | .ar _ _ _ => true
 | .nil => true
 | .cons a b => nofz a && nofz b
 | .ag d => nofz d
 | .tu d => nofz d
 | .cp _ _ => true
 | .sk _ => true
 | _ => false
def fkI : Fk → Bool
 | .int _ => true
 | .bool => true
 | .str => true
 | _ => false
def nofzO : O → Bool
 | .ob _ d => nofz d
 | .sl _ e _ => e.all fkI
section
variable {P : Program} {X X' : Nat → Prop} {N N' : Nat → Option Value} {w w' : World} {g g' : G}
theorem nofz_ok : ∀ {d : D} {m : Bool} {l : List Value}, nofz d = true → (∀ k ∈ d.nm, N' k = N k) → sem X N w d m l → sem X' N' w' d m l := by
 intro d
 induction d with
 | v x => intro m l _ _ h; exact h
 | ar k n f => intro m l _ _ h; exact h
 | nil => intro m l _ _ h; exact h
 | cons a b iha ihb =>
  intro m l hz hn h
  simp only [nofz, Bool.and_eq_true] at hz
  obtain ⟨l1, l2, rfl, h1, h2⟩ := h
  exact ⟨l1, l2, rfl, iha hz.1 (fun k hk => hn k (by simp only [D.nm, List.mem_append]; exact .inl hk)) h1, ihb hz.2 (fun k hk => hn k (by simp only [D.nm, List.mem_append]; exact .inr hk)) h2⟩
 | ag d ih => intro m l hz hn h; obtain ⟨l', h1, h2, h3⟩ := h; exact ⟨l', ih hz hn h1, h2, h3⟩
 | tu d ih => intro m l hz hn h; obtain ⟨l', h1, h2⟩ := h; exact ⟨l', ih hz hn h1, h2⟩
 | cp k o => intro m l _ hn h; obtain ⟨b, h1, h2⟩ := h; exact ⟨b, (hn k (by simp [D.nm])).trans h1, h2⟩
 | sk k => intro m l _ hn h; obtain ⟨v, h1, h2⟩ := h; exact ⟨v, (hn k (by simp [D.nm])).trans h1, h2⟩
 | _ => intro m l hz; cases hz
theorem fkI_ok {a : Fk} {x : a.T} {v : Value} (h : fkI a = true) (k : fS X N w a x v) : fS X' N' w' a x v := by
 cases a <;> first | exact k | cases h
theorem rsI_ok : ∀ {e : List Fk} {x : RT e} {l : List Value}, e.all fkI = true → rS X N w e x l → rS X' N' w' e x l
 | [], x, l, _, h => h
 | [a], x, l, hz, ⟨v, h1, h2⟩ => ⟨v, h1, fkI_ok (by simpa using hz) h2⟩
 | a :: b :: s, x, l, hz, ⟨v, l', h1, h2, h3⟩ => by
  rw [List.all_cons, Bool.and_eq_true] at hz
  exact ⟨v, l', h1, fkI_ok hz.1 h2, rsI_ok (e := b :: s) hz.2 h3⟩
theorem nofzO_ok {k : Nat} {o : O} (hz : nofzO o = true) (hn : ∀ i ∈ o.nm, g'.N i = g.N i) (hk : g'.N k = g.N k) (hf : g'.F k = g.F k) (h : OS g w k o) : OS g' w k o := by
 cases o with
 | ob ty d =>
  obtain ⟨b, c, h1, h2, h3, h4, h5⟩ := h
  exact ⟨b, c, hk.trans h1, hf.trans h2, h3, nofz_ok hz hn h4, h5⟩
 | sl ty e xs =>
  obtain ⟨v, ls, h1, h2, h3, h4, h5, h6⟩ := h
  exact ⟨v, ls, hk.trans h1, hf.trans h2, h3, h4, h5.mono fun _ _ => rsI_ok hz, h6⟩
theorem sem_same {d : D} {m : Bool} {l : List Value} (hp : d.plain = true) (hn : ∀ k ∈ d.nm, N' k = N k) (hx : ∀ x, X' x → X x) (h : sem X N w d m l) : sem X' N' w d m l := by
 have h1 := (sem_ren (X := X) (N := N) (N' := N) (w := w) (r := id) d m l hp fun _ _ => rfl).2 h
 have h2 := (sem_ren (X := X) (N := N) (N' := N') (w := w) (r := id) d m l hp hn).1 h1
 exact sem_mv (S := fun _ => False) ⟨Chp.refl _ _, fun _ h => h.elim, fun x h => .inl (hx x h), fun _ _ h => h⟩ d m l h2
theorem OS_same {k : Nat} {o : O} (hp : o.plain = true) (hn : ∀ i ∈ o.nm, g'.N i = g.N i) (hk : g'.N k = g.N k) (hf : g'.F k = g.F k) (hx : ∀ x, g'.X x → g.X x) (h : OS g w k o) : OS g' w k o := by
 have h1 : OS (⟨g'.N, g'.F, g.X⟩ : G) w k o := by
  have h0 := (OS_ren (g := g) (g' := g) (r := id) hp (fun _ _ => rfl) rfl rfl rfl).2 h
  exact (OS_ren (g := g) (g' := (⟨g'.N, g'.F, g.X⟩ : G)) (r := id) hp hn hk hf rfl).1 h0
 have gs : Goes g.X g'.N w (fun _ => False) g'.X g'.N w := ⟨Chp.refl _ _, fun _ h => h.elim, fun x h => .inl (hx x h), fun _ _ h => h⟩
 cases o with
 | ob ty d =>
  obtain ⟨b, c, h1, h2, h3, h4, h5⟩ := h1
  exact ⟨b, c, h1, h2, h3, sem_mv gs _ _ _ h4, h5⟩
 | sl ty e xs =>
  obtain ⟨v, ls, h1, h2, h3, h4, h5, h6⟩ := h1
  exact ⟨v, ls, h1, h2, h3, h4, h5.mono (rS_mv gs _), h6⟩
theorem chain_sk {j : Nat} {a2 : List D} : ∀ {a1 : List D} {vs : List Value}, sem X N w (chain (a1 ++ .sk j :: a2)) true vs → ∃ v1 v v2, vs = v1 ++ v :: v2 ∧ sem X N w (chain a1) true v1 ∧ N j = some v ∧ sem X N w (chain a2) true v2
 | [], vs, ⟨l1, l2, e, ⟨v, h1, h2, _⟩, h3⟩ => ⟨[], v, l2, by rw [e, h2]; rfl, rfl, h1, h3⟩
 | d :: a1, vs, ⟨l1, l2, e, h1, h2⟩ => by
  obtain ⟨v1, v, v2, e2, h3, h4, h5⟩ := chain_sk h2
  exact ⟨l1 ++ v1, v, v2, by rw [e, e2, List.append_assoc], ⟨l1, v1, rfl, h1, h3⟩, h4, h5⟩
def lendChk (a1 a2 : List D) (H0 H1 : Hc) (res : D) (j : Nat) : Bool :=
 (a1.all (allNm (keys H0))) && (a2.all (allNm (keys H0))) && (H0.all fun p => allNmO (keys H0) p.2) && !(memN j (keys H0)) && !(memN j (keys H1)) && nofz res && allNm (keys H1) res && (H1.all fun p => nofzO p.2 && allNmO (keys H1) p.2)
theorem lkC_mem' : ∀ {H : Hc} {k : Nat} {o : O}, lkC H k = some o → (k, o) ∈ H
 | (s, u) :: r, k, o, h => by
  simp only [lkC] at h
  by_cases e : s = k
  ·subst e; simp at h; subst h; exact List.mem_cons_self ..
  ·rw [beqf e] at h; exact List.mem_cons_of_mem _ (lkC_mem' h)
theorem ConOk.lend {f : FuncId} {a1 a2 : List D} {nn : Bool} {kk : IntKind} {xs : List Int} {H0 H1 : Hc} {res : D} (j te : Nat) (h : ConOk P f ⟨a1 ++ .ls nn [.int kk] xs :: a2, H0, res, H1⟩) (hnn : nn = true → 0 < xs.length) (hk : lendChk a1 a2 H0 H1 res j = true) :
  ConOk P f ⟨a1 ++ .sk j :: a2, (j, .sl te [.int kk] xs) :: H0, res, (j, .sl te [.int kk] xs) :: H1⟩ := by
 refine ⟨h.1, fun vs g w hS hN hv => ?_⟩
 simp only [lendChk, Bool.and_eq_true, List.all_eq_true, Bool.not_eq_true'] at hk
 obtain ⟨⟨⟨⟨⟨⟨⟨c1, c2⟩, c3⟩, c4⟩, c5⟩, c6⟩, c7⟩, c8⟩ := hk
 have nj : ∀ {H : Hc}, memN j (keys H) = false → ∀ k o, lkC H k = some o → k ≠ j := fun {H} hm k o hk e => by
  subst e
  have : k ∈ keys H := List.mem_map.2 ⟨_, lkC_mem' hk, rfl⟩
  rw [memN_iff.2 this] at hm; cases hm
 have nmj : ∀ {H : Hc} {ks : List Nat}, memN j (keys H) = false → (∀ k ∈ ks, memN k (keys H) = true) → ∀ k ∈ ks, k ≠ j := fun hm hks k hk e => by
  subst e; rw [hks k hk] at hm; cases hm
 have lk1 : ∀ (H : Hc) k o, k ≠ j → (lkC ((j, .sl te [.int kk] xs) :: H) k = some o ↔ lkC H k = some o) := fun H k o hne => by
  simp only [lkC]
  rw [beqf (fun e => hne e.symm)]; rfl
 have lkj : ∀ (H : Hc), lkC ((j, (.sl te [.int kk] xs : O)) :: H) j = some (.sl te [.int kk] xs) := fun H => by simp [lkC]
 obtain ⟨v1, v, v2, rfl, s1, hNj, s2⟩ := chain_sk hv
 have hOj := hS.os j _ (lkj H0)
 obtain ⟨v', ls, n1, n2, n3, n4, n5, n6⟩ := hOj
 rw [hNj] at n1
 cases n1
 have hlt : ∀ b ∈ g.F j, b < w.heap.size := OS.lt (hS.os j _ (lkj H0))
 let gf : G := ⟨fun k => if k = j then none else g.N k, g.F, fun x => g.X x ∧ x ∉ g.F j⟩
 have fN : ∀ k, k ≠ j → gf.N k = g.N k := fun k hk => if_neg hk
 have ft1 : ∀ x, Con.foot ⟨a1 ++ .ls nn [.int kk] xs :: a2, H0, res, H1⟩ gf x → ∃ k o, k ≠ j ∧ lkC H0 k = some o ∧ x ∈ g.F k := fun x ⟨k, o, hk, hx⟩ => ⟨k, o, nj c4 k o hk, hk, hx⟩
 have ft : ∀ x, Con.foot ⟨a1 ++ .ls nn [.int kk] xs :: a2, H0, res, H1⟩ gf x → Con.foot ⟨a1 ++ .sk j :: a2, (j, .sl te [.int kk] xs) :: H0, res, (j, .sl te [.int kk] xs) :: H1⟩ g x := fun x hx => by
  obtain ⟨k, o, h1, h2, h3⟩ := ft1 x hx
  exact ⟨k, o, (lk1 H0 k o h1).2 h2, h3⟩
 have ftj : ∀ x, x ∈ g.F j → Con.foot ⟨a1 ++ .sk j :: a2, (j, .sl te [.int kk] xs) :: H0, res, (j, .sl te [.int kk] xs) :: H1⟩ g x := fun x hx => ⟨j, _, lkj H0, hx⟩
 have ftd : ∀ x, Con.foot ⟨a1 ++ .ls nn [.int kk] xs :: a2, H0, res, H1⟩ gf x → x ∉ g.F j := fun x hx hj => by
  obtain ⟨k, o, h1, h2, h3⟩ := ft1 x hx
  exact hS.dis k o j _ ((lk1 H0 k o h1).2 h2) (lkj H0) h1 x h3 hj
 have hSf : HS (lkC H0) gf w := by
  refine ⟨fun x hx => hS.wf x hx.1, fun k o hk => ?_, fun k o hk b hb => ?_, fun k o k' o' hk hk' => ?_⟩
  ·have hne := nj c4 k o hk
   have hc := c3 (k, o) (lkC_mem' hk)
   simp only [allNmO, Bool.and_eq_true, List.all_eq_true] at hc
   exact OS_same hc.1 (fun i hi => fN i (nmj c4 hc.2 i hi)) (fN k hne) rfl (fun x hx => hx.1) (hS.os k o ((lk1 H0 k o hne).2 hk))
  ·have hne := nj c4 k o hk
   exact ⟨hS.own k o ((lk1 H0 k o hne).2 hk) b hb, fun hj => hS.dis k o j _ ((lk1 H0 k o hne).2 hk) (lkj H0) hne b hb hj⟩
  ·exact hS.dis k o k' o' ((lk1 H0 k o (nj c4 k o hk)).2 hk) ((lk1 H0 k' o' (nj c4 k' o' hk')).2 hk')
 have hNf : ∀ k u, gf.N k = some u → k ∈ keys H0 := fun k u hk => by
  by_cases e : k = j
  ·rw [e] at hk; simp [gf] at hk
  ·rw [fN k e] at hk
   have := hN k u hk
   simp only [keys, List.map_cons, List.mem_cons] at this
   exact this.resolve_left e
 have mvl : ∀ {ays : List D} {us : List Value}, (∀ d ∈ ays, allNm (keys H0) d = true) → sem g.X g.N w (chain ays) true us → sem gf.X gf.N w (chain ays) true us := by
  intro ays
  induction ays with
  | nil => intro us _ h; exact h
  | cons d ays ih =>
   rintro us hc ⟨l1, l2, e, k1, k2⟩
   have hd := hc d (List.mem_cons_self ..)
   simp only [allNm, Bool.and_eq_true, List.all_eq_true] at hd
   exact ⟨l1, l2, e, sem_same hd.1 (fun i hi => fN i (nmj c4 hd.2 i hi)) (fun x hx => hx.1) k1, ih (fun e he => hc e (List.mem_cons_of_mem _ he)) k2⟩
 have hls : sem gf.X gf.N w (.ls nn [.int kk] xs) true [v] := by
  refine ⟨v, ls, rfl, ⟨n4, by rw [flat_len n5.row, n5.len], ?_⟩, n5.mono fun _ _ => rsI_ok rfl⟩
  rcases n3.2 with ⟨e1, h0⟩ | ⟨b, cap, cur, e1, k2, k3, k4, k5, k6, k7⟩
  ·cases nn with
   | true => have h0 : xs.length = 0 := h0; have := hnn rfl; omega
   | false => exact .inl ⟨rfl, h0, e1⟩
  ·refine .inr ⟨b, 0, cap, e1, k4, k5, fun hx => hx.2 (by rw [n2, e1]; simp [oblk]), hlt b (by rw [n2, e1]; simp [oblk]), ?_⟩
   rcases n3.at with ⟨e2, _⟩ | ⟨b', cap', e2, _, h3⟩
   ·rw [e1] at e2; cases e2
   ·rw [e1] at e2; cases e2; exact h3
 have hv' : sem gf.X gf.N w (chain (a1 ++ .ls nn [.int kk] xs :: a2)) true (v1 ++ v :: v2) := chain_app (mvl c1 s1) ⟨[v], v2, rfl, hls, mvl c2 s2⟩
 refine (h.2 (v1 ++ v :: v2) gf w hSf hNf hv').mono fun e w' he => ?_
 obtain ⟨r, rfl, g', hp⟩ := he
 have fj : ∀ b ∈ g.F j, b < w.heap.size := hlt
 let gg : G := ⟨fun k => if k = j then g.N j else g'.N k, fun k => if k = j then g.F j else g'.F k, fun x => g'.X x ∨ x ∈ g.F j⟩
 have gN : ∀ k, k ≠ j → gg.N k = g'.N k := fun k hk => if_neg hk
 have gF : ∀ k, k ≠ j → gg.F k = g'.F k := fun k hk => if_neg hk
 have gNj : gg.N j = some v := (if_pos rfl).trans hNj
 have gFj : gg.F j = g.F j := if_pos rfl
 have chp : Chp (Con.foot ⟨a1 ++ .sk j :: a2, (j, .sl te [.int kk] xs) :: H0, res, (j, .sl te [.int kk] xs) :: H1⟩ g) w w' := ⟨hp.go.ch.os, hp.go.ch.tape, hp.go.ch.output, hp.go.ch.size, fun b hb hn => hp.go.ch.blk b hb fun hh => hn (ft b hh)⟩
 refine ⟨r, rfl, gg, ⟨⟨chp, fun x ⟨k, o, hk, hx⟩ => hS.own k o hk x hx, fun x hx => ?_, fun x hx hn => ?_, fun k u hk => ?_, fun k u hk => ?_⟩, ?_, ⟨fun x hx => ?_, fun k o hk => ?_, fun k o hk b hb => ?_, fun k o k' o' hk hk' hne b hb hb' => ?_⟩, fun k o hk b hb => ?_⟩⟩
 ·rcases hx with hx | hx
  ·exact (hp.go.x x hx).imp (fun h => h.1) id
  ·exact .inl (hS.own j _ (lkj H0) x hx)
 ·exact .inl (hp.go.k x ⟨hx, fun hj => hn (ftj x hj)⟩ fun hh => hn (ft x hh))
 ·by_cases e : k = j
  ·rw [e] at hk ⊢; rw [gNj, ← hNj]; exact hk
  ·rw [gN k e]; exact hp.go.n k u ((fN k e).trans hk)
 ·by_cases e : k = j
  ·rw [e, gFj]
  ·rw [gF k e]; exact hp.go.f k u ((fN k e).trans hk)
 ·simp only [allNm, Bool.and_eq_true, List.all_eq_true] at c7
  exact nofz_ok c6 (fun i hi => gN i (nmj c5 c7.2 i hi)) hp.r
 ·rcases hx with hx | hx
  ·exact hp.hs.wf x hx
  ·exact Nat.lt_of_lt_of_le (fj x hx) hp.go.ch.size
 ·by_cases e : k = j
  ·subst e
   rw [lkj] at hk
   cases hk
   exact ⟨v, ls, gNj, gFj.trans n2, Own.mvp n3 hp.go.ch fun b hb hh => ftd b hh (by rw [n2]; exact hb), n4, n5.mono fun _ _ => rsI_ok rfl, n6⟩
  ·have hk := (lk1 H1 k o e).1 hk
   have hc := c8 (k, o) (lkC_mem' hk)
   simp only [allNmO, Bool.and_eq_true, List.all_eq_true] at hc
   exact nofzO_ok hc.1 (fun i hi => gN i (nmj c5 hc.2.2 i hi)) (gN k e) (gF k e) (hp.hs.os k o hk)
 ·by_cases e : k = j
  ·subst e; rw [gFj] at hb; exact .inr hb
  ·rw [gF k e] at hb; exact .inl (hp.hs.own k o ((lk1 H1 k o e).1 hk) b hb)
 ·have key : ∀ k o b, k ≠ j → lkC ((j, (.sl te [.int kk] xs : O)) :: H1) k = some o → b ∈ gg.F k → b ∈ g.F j → False := fun k o b e hk hb hj => by
   rw [gF k e] at hb
   rcases hp.fp k o ((lk1 H1 k o e).1 hk) b hb with h1 | h1
   ·exact ftd b h1 hj
   ·have := fj b hj; omega
  by_cases e : k = j
  ·subst e; rw [gFj] at hb; exact key k' o' b (fun x => hne x.symm) hk' hb' hb
  ·by_cases e' : k' = j
   ·subst e'; rw [gFj] at hb'; exact key k o b e hk hb hb'
   ·rw [gF k e] at hb; rw [gF k' e'] at hb'
    exact hp.hs.dis k o k' o' ((lk1 H1 k o e).1 hk) ((lk1 H1 k' o' e').1 hk') hne b hb hb'
 ·by_cases e : k = j
  ·subst e; rw [gFj] at hb; exact .inl (ftj b hb)
  ·rw [gF k e] at hb; exact (hp.fp k o ((lk1 H1 k o e).1 hk) b hb).imp (ft b) id
end
end Go.Sx
namespace Go.Sx
open Go.Mi Go.RowKit
variable [Dfr]
section
variable {P : Program}
theorem lkC_app {A B : Hc} {k : Nat} {o : O} (h : lkC A k = some o) : lkC (A ++ B) k = some o := by
 induction A with
 | nil => cases h
 | cons p A ih =>
  obtain ⟨s, u⟩ := p
  simp only [List.cons_append, lkC] at h ⊢
  by_cases e : s = k
  ·subst e; simpa using h
  ·rw [beqf e] at h ⊢; exact ih h
theorem lkC_last {A : Hc} {k : Nat} {o : O} (hk : memN k (keys A) = false) : lkC (A ++ [(k, o)]) k = some o := by
 induction A with
 | nil => simp [lkC]
 | cons p A ih =>
  obtain ⟨s, u⟩ := p
  have hne : ¬ s = k := fun e => by
   subst e
   rw [memN_iff.2 (by simp [keys])] at hk; cases hk
  simp only [List.cons_append, lkC]
  rw [beqf hne]
  refine ih ?_
  cases hm : memN k (keys A) with
  | false => rfl
  | true =>
   rw [memN_iff.2 (by simp only [keys, List.map_cons, List.mem_cons]; exact .inr (memN_iff.1 hm))] at hk
   cases hk
theorem ConOk.frz {f : FuncId} {ays : List D} {H0 : Hc} (H1 : Hc) (k te : Nat) (e : List Fk) (xs : List (RT e)) (h : ConOk P f ⟨ays, H0, .sk k, H1 ++ [(k, .sl te e xs)]⟩) (hk : (!(memN k (keys H1)) && H1.all fun p => allNmO (keys H1) p.2) = true) : ConOk P f ⟨ays, H0, .ls false e xs, H1⟩ := by
 refine ⟨h.1, fun vs g w hS hN hv => (h.2 vs g w hS hN hv).mono fun r w' he => ?_⟩
 simp only [Bool.and_eq_true, List.all_eq_true, Bool.not_eq_true'] at hk
 obtain ⟨c1, c2⟩ := hk
 obtain ⟨v, rfl, g', hp⟩ := he
 have hl := lkC_last (A := H1) (o := .sl te e xs) c1
 have up : ∀ j o, lkC H1 j = some o → lkC (H1 ++ [(k, .sl te e xs)]) j = some o := fun j o hj => lkC_app hj
 have ne : ∀ j o, lkC H1 j = some o → j ≠ k := fun j o hj e => by
  subst e
  have hm : j ∈ keys H1 := List.mem_map.2 ⟨_, lkC_mem' hj, rfl⟩
  rw [memN_iff.2 hm] at c1; cases c1
 let gg : G := ⟨g'.N, g'.F, fun x => g'.X x ∧ x ∉ g'.F k⟩
 obtain ⟨u, ls, n1, n2, n3, n4, n5, n6⟩ := hp.hs.os k _ hl
 have gs : Goes g'.X g'.N w' (fun _ => False) gg.X gg.N w' := ⟨Chp.refl _ _, fun _ h => h.elim, fun x h => .inl h.1, fun _ _ h => h⟩
 have hr : v = u := by
  obtain ⟨u', h1, h2, _⟩ := hp.r
  rw [n1] at h1
  cases h1
  exact (List.cons.inj h2).1
 refine ⟨v, rfl, gg, ⟨hp.go.ch, hp.go.s, fun x hx => hp.go.x x hx.1, fun x hx hn => ⟨hp.go.k x hx hn, fun hk => ?_⟩, hp.go.n, hp.go.f⟩, ?_, ⟨fun x hx => hp.hs.wf x hx.1, fun j o hj => ?_, fun j o hj b hb => ⟨hp.hs.own j o (up j o hj) b hb, fun hk => hp.hs.dis j o k _ (up j o hj) hl (ne j o hj) b hb hk⟩, fun j o j' o' hj hj' => hp.hs.dis j o j' o' (up j o hj) (up j' o' hj')⟩, fun j o hj => hp.fp j o (up j o hj)⟩
 ·rcases hp.fp k _ hl x hk with h1 | h1
  ·exact hn h1
  ·have := hS.wf x hx; omega
 ·subst hr
  refine ⟨v, ls, rfl, ⟨n4, by rw [flat_len n5.row, n5.len], ?_⟩, n5.mono (rS_mv gs _)⟩
  rcases n3.2 with ⟨e1, h0⟩ | ⟨b, cap, cur, e1, k2, k3, k4, k5, k6, k7⟩
  ·exact .inl ⟨rfl, h0, e1⟩
  ·refine .inr ⟨b, 0, cap, e1, k4, k5, fun hx => hx.2 (by rw [n2, e1]; simp [oblk]), OS.lt (hp.hs.os k _ hl) b (by rw [n2, e1]; simp [oblk]), ?_⟩
   rcases n3.at with ⟨e2, _⟩ | ⟨b', cap', e2, _, h3⟩
   ·rw [e1] at e2; cases e2
   ·rw [e1] at e2; cases e2; exact h3
 ·have hc := c2 (j, o) (lkC_mem' hj)
  simp only [allNmO, Bool.and_eq_true, List.all_eq_true] at hc
  exact OS_same (g := g') (g' := gg) hc.1 (fun _ _ => rfl) rfl rfl (fun x hx => hx.1) (hp.hs.os j o (up j o hj))
end
end Go.Sx
namespace Go.Sx
open Go.Mi Go.RowKit
variable [Dfr]
end Go.Sx
namespace Go.Sx
open Go.Mi Go.RowKit
variable [Dfr]
section
variable {P : Program} {g : G} {w : World} {H : Hp}
def ConOkT (T : List Value → World → (Value → World → Prop) → Prop) (c : Con) : Prop :=
 ∀ vs g w, HS (lkC c.H0) g w → (∀ k v, g.N k = some v → k ∈ keys c.H0) → sem g.X g.N w (chain c.args) true vs → T vs w fun v w' => ∃ g', CPost c g w v g' w'
theorem call_postT {T : List Value → World → (Value → World → Prop) → Prop} (hmono : ∀ {vs : List Value} {w : World} {R R' : Value → World → Prop}, T vs w R → (∀ v w', R v w' → R' v w') → T vs w R') {q : CR} (hq : CRok q) (hc : ConOkT T q.c) (hH0 : H0Ok H q.r q.c.H0) (hS : HS (resH (q.eff.rd ++ keys q.eff.wr) (lkH H)) g w) (hnew : ∀ p ∈ q.eff.nw, g.N p.1 = none) {vs : List Value} (hv : sem g.X g.N w (chain (q.c.args.map (D.ren q.r))) true vs) :
  T vs w (fun v w' => ∃ g', Post (lkH H) q.eff g w v g' w') := by
 have hr1 : ∀ k ∈ keys q.ρ, q.r k = rn q.ρ k := fun k hk => by simp only [CR.r, rn_app, hk, if_true]
 have hr2 : ∀ k ∈ keys q.σ, q.r k = rn q.σ k := fun k hk => by simp only [CR.r, rn_app, (hq.new k hk).2, if_false]
 have nd1 : (keys q.ρ).Nodup := by
  have := hq.nod
  simp only [keys, List.map_append] at this
  exact (List.nodup_append.1 this).1
 have nd2 : (keys q.σ).Nodup := by
  have := hq.nod
  simp only [keys, List.map_append] at this
  exact (List.nodup_append.1 this).2.1
 have hinj : ∀ i ∈ keys q.ρ, ∀ j ∈ keys q.ρ, q.r i = q.r j → i = j := fun i hi j hj e => by
  have h1 := inv_of hq.inj (rn_mem nd1 hi)
  have h2 := inv_of hq.inj (rn_mem nd1 hj)
  rw [← hr1 i hi, e, hr1 j hj, h2] at h1
  exact (Option.some.inj h1).symm
 have hwk : ∀ k ∈ keys q.ρ, q.r k ∈ keys q.eff.wr := fun k hk => by
  simp only [CR.eff, keys, List.map_map]
  exact List.mem_map.2 ⟨_, rn_mem nd1 hk, (hr1 k hk).symm⟩
 have hkw : ∀ k ∈ keys q.eff.wr, ∃ j ∈ keys q.ρ, k = q.r j := fun k hk => by
  simp only [CR.eff, keys, List.map_map] at hk
  obtain ⟨p, hp, rfl⟩ := List.mem_map.1 hk
  have h1 : p.1 ∈ keys q.ρ := List.mem_map.2 ⟨p, hp, rfl⟩
  exact ⟨p.1, h1, by rw [hr1 _ h1, rn_of nd1 hp]; rfl⟩
 have obj : ∀ k o, lkC q.c.H0 k = some o → lkH H (q.r k) = some (o.ren q.r) ∧ resH (q.eff.rd ++ keys q.eff.wr) (lkH H) (q.r k) = some (o.ren q.r) := fun k o ho => by
  have h1 := H0Ok_at hH0 ho
  exact ⟨h1, by simp only [resH, memN_iff.2 (List.mem_append_right q.eff.rd (hwk k (hq.h0 k o ho).1)), h1, cond_true]⟩
 have hsome : ∀ k ∈ keys q.ρ, ∃ v, g.N (q.r k) = some v := fun k hk => by
  have := lkC_keys.1 (hq.dom k hk)
  obtain ⟨o, ho⟩ := Option.ne_none_iff_exists'.1 this
  have h1 := hS.os _ _ (obj k o ho).2
  cases o with
  | ob ty ds => obtain ⟨b, c, k1, _⟩ := h1; exact ⟨_, k1⟩
  | sl ty e xs => obtain ⟨b, c, k1, _⟩ := h1; exact ⟨_, k1⟩
 -- what the callee sees
 let gc : G := ⟨fun k => if k ∈ keys q.ρ then g.N (q.r k) else none, fun k => g.F (q.r k), g.X⟩
 have gcN : ∀ k ∈ keys q.ρ, gc.N k = g.N (q.r k) := fun k hk => if_pos hk
 have hSc : HS (lkC q.c.H0) gc w := by
  refine ⟨hS.wf, fun k o ho => ?_, fun k o ho b hb => ?_, fun k o k' o' ho ho' hne b hb hb' => ?_⟩
  ·obtain ⟨h1, h2, h3⟩ := hq.h0 k o ho
   exact (OS_ren h2 (fun j hj => gcN j (h3 j hj)) (gcN k h1) rfl rfl).1 (hS.os _ _ (obj k o ho).2)
  ·exact hS.own _ _ (obj k o ho).2 b hb
  ·exact hS.dis _ _ _ _ (obj k o ho).2 (obj k' o' ho').2 (fun e => hne (hinj k (hq.h0 k o ho).1 k' (hq.h0 k' o' ho').1 e)) b hb hb'
 have hvc : sem gc.X gc.N w (chain q.c.args) true vs := by
  rw [chain_ren] at hv
  refine (sem_ren _ _ _ (chain_plain fun d hd => (hq.args d hd).1) fun k hk => ?_).1 hv
  obtain ⟨d, hd, hk⟩ := chain_nm hk
  exact gcN k ((hq.args d hd).2 k hk)
 refine hmono (hc vs gc w hSc (fun k v hk => ?_) hvc) fun v w' ⟨g', hp⟩ => ?_
 ·by_cases h : k ∈ keys q.ρ
  ·exact hq.dom k h
  ·rw [show gc.N k = none from if_neg h] at hk; cases hk
 -- behind it
 have hnone : ∀ k ∈ keys q.σ, g.N (q.r k) = none := fun k hk => by
  obtain ⟨o, ho⟩ := Option.ne_none_iff_exists'.1 (lkC_keys.1 (hq.new k hk).1)
  refine hnew (q.r k, o.ren q.r) ?_
  simp only [CR.eff, List.mem_filterMap]
  exact ⟨_, rn_mem nd2 hk, by rw [ho, Option.map_some, hr2 k hk]⟩
 let G' : G := ⟨fun k => match g.N k with
  | some v => some v
  | none => (inv q.σ k).bind g'.N, fun k => match g.N k with
  | some _ => g.F k
  | none => match inv q.σ k with
   | some j => g'.F j
   | none => g.F k, g'.X⟩
 have GN : ∀ k ∈ keys (q.ρ ++ q.σ), g'.N k = G'.N (q.r k) := fun k hk => by
  simp only [keys, List.map_append, List.mem_append] at hk
  rcases hk with hk | hk
  ·obtain ⟨v, hv⟩ := hsome k hk
   have h1 : gc.N k = some v := (gcN k hk).trans hv
   rw [hp.go.n k v h1]
   simp only [G', hv]
  ·simp only [G', hnone k hk]
   rw [hr2 k hk, inv_of hq.inj2 (rn_mem nd2 hk)]
   rfl
 have GF : ∀ k ∈ keys (q.ρ ++ q.σ), g'.F k = G'.F (q.r k) := fun k hk => by
  simp only [keys, List.map_append, List.mem_append] at hk
  rcases hk with hk | hk
  ·obtain ⟨v, hv⟩ := hsome k hk
   have h1 : gc.N k = some v := (gcN k hk).trans hv
   rw [hp.go.f k v h1]
   simp only [G', hv]
   rfl
  ·simp only [G', hnone k hk]
   rw [hr2 k hk, inv_of hq.inj2 (rn_mem nd2 hk)]
 have hft : ∀ b, q.c.foot gc b → q.eff.foot (lkH H) g b := fun b ⟨k, o, h1, h2⟩ => ⟨q.r k, hwk k (hq.h0 k o h1).1, _, (obj k o h1).1, h2⟩
 have hft2 : ∀ b, q.eff.foot (lkH H) g b → q.c.foot gc b := fun b ⟨k, h1, o, h2, h3⟩ => by
  obtain ⟨j, hj, rfl⟩ := hkw k h1
  obtain ⟨o', ho'⟩ := Option.ne_none_iff_exists'.1 (lkC_keys.1 (hq.dom j hj))
  exact ⟨j, o', ho', h3⟩
 have houts : ∀ k o, lkH q.eff.outs k = some o → ∃ j o', j ∈ keys (q.ρ ++ q.σ) ∧ k = q.r j ∧ lkC q.c.H1 j = some o' ∧ o = o'.ren q.r := by
  intro k o h
  have h := lkH_some.1 h
  rw [Eff.outs, lkO_app] at h
  cases hw : lkO q.eff.wr k with
  | some x =>
   rw [hw] at h
   cases h
   have : ∀ (a : Ren), (∀ p ∈ a, p ∈ q.ρ) → lkO (a.map fun p => (p.2, (lkC q.c.H1 p.1).map (O.ren q.r))) k = some (some o) → ∃ p ∈ q.ρ, p.2 = k ∧ (lkC q.c.H1 p.1).map (O.ren q.r) = some o := by
    intro a
    induction a with
    | nil => intro _ h; cases h
    | cons p a ih =>
     intro hm h
     simp only [List.map_cons, lkO] at h
     by_cases e : p.2 = k
     ·have hb : Nat.beq p.2 k = true := by rw [e]; exact Nat.beq_refl k
      rw [hb] at h
      simp only [cond_true, Option.some.injEq] at h
      exact ⟨p, hm p (List.mem_cons_self ..), e, h⟩
     ·rw [beqf e] at h; exact ih (fun p hp => hm p (List.mem_cons_of_mem _ hp)) h
   obtain ⟨p, hp1, hp2, hp3⟩ := this q.ρ (fun _ h => h) hw
   obtain ⟨o', h1, h2⟩ := Option.map_eq_some_iff.1 hp3
   have h3 : p.1 ∈ keys q.ρ := List.mem_map.2 ⟨p, hp1, rfl⟩
   exact ⟨p.1, o', by simp only [keys, List.map_append, List.mem_append]; exact .inl h3, by rw [hr1 _ h3, rn_of nd1 hp1, hp2], h1, h2.symm⟩
  | none =>
   rw [hw] at h
   have : ∀ (a : List (Nat × O)), lkO (a.map fun p => (p.1, some p.2)) k = some (some o) → (k, o) ∈ a := by
    intro a
    induction a with
    | nil => intro h; cases h
    | cons p a ih =>
     intro h
     obtain ⟨s, u⟩ := p
     simp only [List.map_cons, lkO] at h
     by_cases e : s = k
     ·subst e; simp at h; subst h; simp
     ·rw [beqf e] at h; exact List.mem_cons_of_mem _ (ih h)
   have hm := this _ h
   simp only [CR.eff, List.mem_filterMap] at hm
   obtain ⟨p, hp1, hp2⟩ := hm
   obtain ⟨o', h1, h2⟩ := Option.map_eq_some_iff.1 hp2
   cases h2
   have h3 : p.1 ∈ keys q.σ := List.mem_map.2 ⟨p, hp1, rfl⟩
   exact ⟨p.1, o', by simp only [keys, List.map_append, List.mem_append]; exact .inr h3, by rw [hr2 _ h3, rn_of nd2 hp1], h1, rfl⟩
 refine ⟨G', ⟨⟨⟨hp.go.ch.os, hp.go.ch.tape, hp.go.ch.output, hp.go.ch.size, fun b hb hn => hp.go.ch.blk b hb fun h => hn (hft b h)⟩, fun x hx => hp.go.s x (hft2 x hx), hp.go.x, fun x hx hn => hp.go.k x hx fun h => hn (hft x h), fun k u hk => by simp only [G', hk], fun k u hk => by simp only [G', hk]⟩, ?_, ⟨hp.hs.wf, fun k o h => ?_, fun k o h b hb => ?_, fun k o k' o' h h' hne b hb hb' => ?_⟩, fun k o h b hb => ?_, fun k u hk => ?_⟩⟩
 ·exact (sem_ren q.c.res _ _ hq.res.1 fun k hk => GN k (hq.res.2 k hk)).2 hp.r
 ·obtain ⟨j, o', h1, rfl, h2, rfl⟩ := houts k o h
  obtain ⟨h3, h4, h5⟩ := hq.h1 j o' h2
  exact (OS_ren h4 (fun i hi => GN i (h5 i hi)) (GN j h3) (GF j h3) rfl).2 (hp.hs.os j o' h2)
 ·obtain ⟨j, o', h1, rfl, h2, rfl⟩ := houts k o h
  rw [← GF j h1] at hb
  exact hp.hs.own j o' h2 b hb
 ·obtain ⟨j, o2, h1, rfl, h2, rfl⟩ := houts k o h
  obtain ⟨j', o2', h1', rfl, h2', rfl⟩ := houts k' o' h'
  rw [← GF j h1] at hb
  rw [← GF j' h1'] at hb'
  exact hp.hs.dis j o2 j' o2' h2 h2' (fun e => hne (by rw [e])) b hb hb'
 ·obtain ⟨j, o', h1, rfl, h2, rfl⟩ := houts k o h
  rw [← GF j h1] at hb
  exact (hp.fp j o' h2 b hb).imp (hft b) id
 ·simp only [G'] at hk
  cases hg : g.N k with
  | some v => rw [hg] at hk; simp only at hk; exact .inl hk
  | none =>
   rw [hg] at hk
   simp only at hk
   obtain ⟨j, hj, _⟩ := Option.bind_eq_some_iff.1 hk
   have hm := inv_mem hj
   have h3 : j ∈ keys q.σ := List.mem_map.2 ⟨_, hm, rfl⟩
   obtain ⟨o, ho⟩ := Option.ne_none_iff_exists'.1 (lkC_keys.1 (hq.new j h3).1)
   refine .inr (List.mem_map.2 ⟨(k, o.ren q.r), ?_, rfl⟩)
   simp only [CR.eff, List.mem_filterMap]
   exact ⟨_, hm, by rw [ho]; rfl⟩
def RetD (P : Program) (f : FuncId) (u u' : FrameMode) (vs : List Value) (w : World) (R : Value → World → Prop) : Prop := CallsD P f vs.toArray u w fun e x w' => ∃ v, e = .returned v ∧ x = u' ∧ R v w'
theorem RetD.mono {f : FuncId} {u u' : FrameMode} {vs : List Value} {w : World} {R R' : Value → World → Prop} (h : RetD P f u u' vs w R) (hr : ∀ v w', R v w' → R' v w') : RetD P f u u' vs w R' :=
 CallsD.mono h fun _ _ w' ⟨v, h1, h2, h3⟩ => ⟨v, h1, h2, hr v w' h3⟩
def ConOkD (P : Program) (f : FuncId) (u u' : FrameMode) (c : Con) : Prop := Go.Mi.Callee P f ∧ ConOkT (RetD P f u u') c
def rcd (v : Value) : FrameMode := .panicking [{ v, recovered := true }]
def rcv : FrameMode → Option (Value × FrameMode)
 | .returning => some (.nilIface, .returning)
 | .panicking [⟨v, false, false⟩] => some (v, rcd v)
 | _ => none
theorem rcv_ok {u u' : FrameMode} {x : Value} (h : rcv u = some (x, u')) {c₀ : Frame} {cs : List Frame} (hu : c₀.mode = u) :
  (recoverD (c₀ :: cs) = none ∧ x = .nilIface ∧ u' = u) ∨ recoverD (c₀ :: cs) = some (x, { c₀ with mode := u' } :: cs) := by
 unfold rcv at h
 split at h
 ·cases h
  exact .inl ⟨by simp [recoverD, hu], rfl, rfl⟩
 ·cases h
  exact .inr (by simp [recoverD, hu, rcd])
 ·cases h
theorem conD_of (hD : Dfr.ds = ([] : List Deferred)) {f : FuncId} {fn : Func} {rest : Code} {c : Con} {n nb id t0 t1 : Nat} {u u' : FrameMode} {x : Value} {ty ty' : TypeId} {ps ps' : String} {af af' : Array Edge} (hf : P.funcs[f]? = some fn) (hname : (fn.name == "runtime.NumGoroutine") = false)
  (hb : fn.body = some (.seq (.region id #[⟨some t0, .call ⟨.builtin .recover, #[], #[]⟩, ty, ps, af, none⟩, ⟨some t1, .assign (.tmp t0), ty', ps', af', none⟩] false) rest)) (hn : fn.ntmps = n) (hl : Nat.ble c.args.length t1 = true) (ht : Nat.blt t1 t0 = true) (ht2 : Nat.blt t0 n = true) (hone : c.args.all D.one = true) (hk : (keys c.H0).all (Nat.blt · nb) = true) (hr : rcv u = some (x, u'))
  (h : ∀ (g0 : G) (w0 : World) (a : Act) (g : G) (w : World), (∀ k v, g0.N k = some v → k ∈ keys c.H0) → St n (c.foot g0) g0 w0 ((t1, .v x) :: argL c.args 0) (hpC c.H0) nb a g w → rest.wp P (bodyPost P fn (Ret fun v w' => ∃ g', CPost c g0 w0 v g' w')) a w) : ConOkD P f u u' c := by
 refine ⟨⟨fn, hf, hname, by rw [hb]; rfl⟩, fun vs g w hS hN hv => ?_⟩
 have hlen : ∀ {ds : List D} {vs : List Value}, (∀ d ∈ ds, d.one = true) → sem g.X g.N w (chain ds) true vs → vs.length = ds.length := by
  intro ds
  induction ds with
  | nil => intro vs _ h; have : vs = [] := h; subst this; rfl
  | cons d ds ih =>
   rintro vs ho ⟨l1, l2, rfl, h1, h2⟩
   obtain ⟨v, rfl⟩ := sem_one h1 (ho d (List.mem_cons_self ..))
   simp [ih (fun e he => ho e (List.mem_cons_of_mem _ he)) h2]
 have ho := List.all_eq_true.1 hone
 have hvl := hlen ho hv
 have hl := Nat.le_of_ble_eq_true hl
 rw [Nat.blt_eq] at ht ht2
 let a0 : Act := { tmps := vs.toArray ++ Array.replicate (fn.ntmps - vs.toArray.size) undef, defers := [] }
 have hF0 : Frm a0 n (vs.zipIdx.map fun p => (p.2, p.1)) := by subst hn; exact Frm.enter hD (by omega)
 -- the first two
 let a1 : Act := (a0.put (some t0) x).put (some t1) x
 have get1 : ∀ t, a1.tmps.getD t undef = if t = t1 then x else if t = t0 then x else a0.tmps.getD t undef := fun t => by
  have hs := hF0.size
  by_cases e1 : t = t1
  ·subst e1; simp [a1, Act.put, hs, show t < n by omega]
  ·rw [if_neg e1]
   have : a1.tmps.getD t undef = (a0.put (some t0) x).tmps.getD t undef := by
    simp [a1, Act.put, Array.getElem?_setIfInBounds_ne (fun e => e1 e.symm : t1 ≠ t)]
   rw [this]
   by_cases e0 : t = t0
   ·subst e0; simp [Act.put, hs, ht2]
   ·rw [if_neg e0]; simp [Act.put, Array.getElem?_setIfInBounds_ne (fun e => e0 e.symm : t0 ≠ t)]
 have hSt : St n (c.foot g) g w ((t1, .v x) :: argL c.args 0) (hpC c.H0) nb a1 g w := by
  refine ⟨by simp [a1, Act.put, hF0.size], by simp [a1, Act.put, a0, hD], fun t d ht' => ?_, ?_, Go.refl _ _ _ fun x ⟨k, o, h1, h2⟩ => hS.own k o h1 x h2, hS.wf, fun k o hk b hb => .inl ⟨k, o, by rw [← lkH_hpC]; exact hk, hb⟩, fun k v hkv => ?_⟩
  ·simp only [lkD] at ht'
   by_cases e : t1 = t
   ·subst e
    simp at ht'
    subst ht'
    show [_] = [x]
    rw [get1, if_pos rfl]
   ·rw [beqf e] at ht'
    have key : ∀ (ds : List D) (us : List Value) (i : Nat), (∀ d ∈ ds, d.one = true) → sem g.X g.N w (chain ds) true us → (∀ s v, lk ((us.zipIdx i).map fun p => (p.2, p.1)) s = some v → a0.tmps.getD s undef = v) → lkD (argL ds i) t = some d → Sm g w d (a0.tmps.getD t undef) ∧ t < i + ds.length := by
     intro ds
     induction ds with
     | nil => intro us i _ _ _ ht; cases ht
     | cons e ds ih =>
      rintro us i ho ⟨l1, l2, rfl, h1, h2⟩ hg ht
      obtain ⟨v, rfl⟩ := sem_one h1 (ho e (List.mem_cons_self ..))
      simp only [argL, lkD] at ht
      by_cases e' : i = t
      ·subst e'
       simp at ht
       subst ht
       have := hg i v (by simp [lk])
       rw [this]
       exact ⟨h1, by simp⟩
      ·rw [beqf e'] at ht
       have hg' : ∀ s v, lk ((l2.zipIdx (i + 1)).map fun p => (p.2, p.1)) s = some v → a0.tmps.getD s undef = v := by
        intro s v hs
        refine hg s v ?_
        simp only [List.singleton_append, List.zipIdx_cons, List.map_cons, lk]
        have hne : ¬ i = s := fun es => by
         subst es
         have : ∀ (us : List Value) (j : Nat), i < j → lk ((us.zipIdx j).map fun p => (p.2, p.1)) i = none := by
          intro us
          induction us with
          | nil => intro j _; rfl
          | cons u us ih2 =>
           intro j hj
           simp only [List.zipIdx_cons, List.map_cons, lk]
           rw [beqf (show ¬ j = i by omega)]
           exact ih2 (j + 1) (by omega)
         rw [this l2 (i + 1) (by omega)] at hs
         cases hs
        rw [beqf hne]
        exact hs
       obtain ⟨q1, q2⟩ := ih l2 (i + 1) (fun q hq => ho q (List.mem_cons_of_mem _ hq)) h2 hg' ht
       exact ⟨q1, by simp only [List.length_cons]; omega⟩
    obtain ⟨q1, q2⟩ := key c.args vs 0 ho hv hF0.get ht'
    rw [get1, if_neg (fun e' => e e'.symm), if_neg (by omega)]
    exact q1
  ·exact hS.sub fun k o hk => by rw [← lkH_hpC]; exact hk
  ·have := List.all_eq_true.1 hk k (hN k v hkv)
   simpa [Nat.blt_eq] using this
 have hrest := h g w a1 g w hN hSt
 refine callsD_of_wpS hf hb fun c₀ cs hu => ?_
 refine wpS_seq (wpS_region ?_)
 have hfin : ∀ cs', cs' = { c₀ with mode := u' } :: cs → rest.wpS P (bodyPostS P fn c₀ cs fun e x w' => ∃ v, e = .returned v ∧ x = u' ∧ ∃ g', CPost c g w v g' w') a1 cs' w := fun cs' hcs => by
  subst hcs
  intro b k hb' hro
  obtain ⟨e, a', w', hq, harr⟩ := hrest b k ({ c₀ with mode := u' } :: cs)
  refine ⟨e, a', { c₀ with mode := u' } :: cs, w', ?_, harr⟩
  cases e with
  | normal => obtain ⟨h1, v, h2, v2, h3, h4⟩ := hq; cases h3; exact ⟨h1, u', rfl, v, h2, v, rfl, rfl, h4⟩
  | ret => obtain ⟨h1, v, h2, v2, h3, h4⟩ := hq; cases h3; exact ⟨h1, u', rfl, v, h2, v, rfl, rfl, h4⟩
  | panic chain => obtain ⟨h1, v2, h3, _⟩ := hq; cases h3
  | exit id => exact hq.elim
  | goto l => exact hq.elim
  | outgrown => obtain ⟨v2, h3, _⟩ := hq; cases h3
 have hg0' : (a0.put (some t0) x).eval (.tmp t0) = x := by
  show (a0.put (some t0) x).tmps.getD t0 undef = x
  simp [Act.put, hF0.size, ht2]
 have hcm : ({ c₀ with mode := u } : Frame) = c₀ := by subst hu; rfl
 have hx := rcv_ok hr (cs := cs) hu
 have hstep : wpOpsS P #[⟨some t0, .call ⟨.builtin .recover, #[], #[]⟩, ty, ps, af, none⟩, ⟨some t1, .assign (.tmp t0), ty', ps', af', none⟩] (Exit.thenS (rest.wpS P (bodyPostS P fn c₀ cs fun e x w' => ∃ v, e = .returned v ∧ x = u' ∧ ∃ g', CPost c g w v g' w')) (bodyPostS P fn c₀ cs fun e x w' => ∃ v, e = .returned v ∧ x = u' ∧ ∃ g', CPost c g w v g' w')) [0, 1] a0 (c₀ :: cs) w := by
  rcases hx with ⟨h1, h2, h3⟩ | h1
  ·subst h2
   simp only [wpOpsS, Region.wanted, execOp, resolve, invoke, builtin, List.getElem?_toArray, List.getElem?_cons_zero, List.getElem?_cons_succ, Sem.run_bind, Sem.run_pure, Result.andThen_ok, h1, hg0', Oper.upon, if_true, Array.map_empty]
   exact hfin _ (by rw [h3, hcm])
  ·simp only [wpOpsS, Region.wanted, execOp, resolve, invoke, builtin, List.getElem?_toArray, List.getElem?_cons_zero, List.getElem?_cons_succ, Sem.run_bind, Sem.run_pure, Result.andThen_ok, h1, hg0', Oper.upon, if_true, Array.map_empty]
   exact hfin _ rfl
 exact hstep
end
end Go.Sx
namespace Go.Sx
open Go.Mi Go.RowKit
variable [Dfr]
structure Base (S1 : Nat → Prop) (g1 : G) (w1 : World) (S0 : Nat → Prop) (g0 : G) (w0 : World) : Prop where
 s : ∀ y, S1 y → S0 y ∨ w0.heap.size ≤ y
 go : Go S0 g0 w0 g1 w1
 wf : Wf g0 w0
def footH (H : Hp) (g : G) : Nat → Prop := fun b => ∃ k o, lkH H k = some o ∧ b ∈ g.F k
section
variable {P : Program} {n : Nat} {L : DL} {H : Hp} {S0 : Nat → Prop} {g0 g : G} {w0 w : World} {nb : Nat} {a : Act} {Q : Exit → Act → World → Prop}
theorem lk_zip_none {t : Nat} : ∀ (us : List Value) (j : Nat), t < j → lk ((us.zipIdx j).map fun p => (p.2, p.1)) t = none
 | [], _, _ => rfl
 | u :: us, j, h => by
  simp only [List.zipIdx_cons, List.map_cons, lk]
  rw [beqf (show ¬ j = t by omega)]
  exact lk_zip_none us (j + 1) (by omega)
theorem St.begin (hD : Dfr.ds = ([] : List Deferred)) {c : Con} {vs : List Value} (hl : Nat.ble c.args.length n = true) (hone : c.args.all D.one = true) (hk : (keys c.H0).all (Nat.blt · nb) = true) (hS : HS (lkC c.H0) g w) (hN : ∀ k v, g.N k = some v → k ∈ keys c.H0) (hv : sem g.X g.N w (chain c.args) true vs) :
  St n (c.foot g) g w (argL c.args 0) (hpC c.H0) nb { tmps := vs.toArray ++ Array.replicate (n - vs.toArray.size) undef, defers := [] } g w := by
 have hlen : ∀ {ds : List D} {vs : List Value}, (∀ d ∈ ds, d.one = true) → sem g.X g.N w (chain ds) true vs → vs.length = ds.length := by
  intro ds
  induction ds with
  | nil => intro vs _ h; have : vs = [] := h; subst this; rfl
  | cons d ds ih =>
   rintro vs ho ⟨l1, l2, rfl, h1, h2⟩
   obtain ⟨v, rfl⟩ := sem_one h1 (ho d (List.mem_cons_self ..))
   simp [ih (fun e he => ho e (List.mem_cons_of_mem _ he)) h2]
 have ho := List.all_eq_true.1 hone
 have hvl := hlen ho hv
 have hl := Nat.le_of_ble_eq_true hl
 have hF : Frm { tmps := vs.toArray ++ Array.replicate (n - vs.toArray.size) undef, defers := [] } n (vs.zipIdx.map fun p => (p.2, p.1)) := Frm.enter hD (by omega)
 refine ⟨hF.size, hF.defers, fun t d ht => ?_, hS.sub fun k o hk => by rw [← lkH_hpC]; exact hk, Go.refl _ _ _ fun x ⟨k, o, h1, h2⟩ => hS.own k o h1 x h2, hS.wf, fun k o hk b hb => .inl ⟨k, o, by rw [← lkH_hpC]; exact hk, hb⟩, fun k v hkv => ?_⟩
 ·have key : ∀ (ds : List D) (us : List Value) (i : Nat), (∀ d ∈ ds, d.one = true) → sem g.X g.N w (chain ds) true us → (∀ s v, lk ((us.zipIdx i).map fun p => (p.2, p.1)) s = some v → Array.getD (vs.toArray ++ Array.replicate (n - vs.toArray.size) undef) s undef = v) → lkD (argL ds i) t = some d → Sm g w d (Array.getD (vs.toArray ++ Array.replicate (n - vs.toArray.size) undef) t undef) := by
   intro ds
   induction ds with
   | nil => intro us i _ _ _ ht; cases ht
   | cons e ds ih =>
    rintro us i ho ⟨l1, l2, rfl, h1, h2⟩ hg ht
    obtain ⟨v, rfl⟩ := sem_one h1 (ho e (List.mem_cons_self ..))
    simp only [argL, lkD] at ht
    by_cases e' : i = t
    ·subst e'
     simp at ht
     subst ht
     have := hg i v (by simp [lk])
     rw [this]
     exact h1
    ·rw [beqf e'] at ht
     have hg' : ∀ s v, lk ((l2.zipIdx (i + 1)).map fun p => (p.2, p.1)) s = some v → Array.getD (vs.toArray ++ Array.replicate (n - vs.toArray.size) undef) s undef = v := by
      intro s v hs
      refine hg s v ?_
      simp only [List.singleton_append, List.zipIdx_cons, List.map_cons, lk]
      have hne : ¬ i = s := fun es => by subst es; rw [lk_zip_none l2 (i + 1) (by omega)] at hs; cases hs
      rw [beqf hne]
      exact hs
     exact ih l2 (i + 1) (fun q hq => ho q (List.mem_cons_of_mem _ hq)) h2 hg' ht
  exact key c.args vs 0 ho hv hF.get ht
 ·have := List.all_eq_true.1 hk k (hN k v hkv)
  simpa [Nat.blt_eq] using this
theorem conOk_ofDf (hD : Dfr.ds = ([] : List Deferred)) {f : FuncId} {fn : Func} {code : Code} {c : Con} {nb : Nat} (hf : P.funcs[f]? = some fn) (hname : (fn.name == "runtime.NumGoroutine") = false) (hb : fn.body = some code) (hn : fn.ntmps = n) (hl : Nat.ble c.args.length n = true) (hone : c.args.all D.one = true) (hk : (keys c.H0).all (Nat.blt · nb) = true)
  (h : ∀ (g0 : G) (w0 : World) (a : Act) (g : G) (w : World), (∀ k v, g0.N k = some v → k ∈ keys c.H0) → St n (c.foot g0) g0 w0 (argL c.args 0) (hpC c.H0) nb a g w → code.wp P (bodyPostD P fn (Ret fun v w' => ∃ g', CPost c g0 w0 v g' w')) a w) : ConOk P f c := by
 refine ⟨⟨fn, hf, hname, by rw [hb]; rfl⟩, fun vs g w hS hN hv => ?_⟩
 subst hn
 exact calls_of_wp_defers hf hb (h g w _ g w hN (St.begin hD hl hone hk hS hN hv))
theorem defer_x (hD0 : Dfr.ds = ([] : List Deferred)) {id t : Nat} {f : FuncId} {caps : List Operand} {cs : List D} {ty ty' : TypeId} {ps ps' : String} {af af' : Array Edge} (hS : St n S0 g0 w0 L H nb a g w) (hc : opsD L caps = some cs) (ht : (lkD L t).isNone = true) (ht2 : Nat.blt t n = true)
  (h : ∀ (D : Dfr) (vs : List Value) (a' : Act), D.ds = [⟨.fn (.func f) vs.toArray, #[]⟩] → sem g.X g.N w (chain cs) true vs → Base (footH H g) g w S0 g0 w0 → @SS D n (footH H g) g w (lkD L) (lkH H) (· < nb) a' g w → Q .normal a' w) :
  (Code.region id #[⟨some t, .makeFunc (.func f) #[] caps.toArray, ty, ps, af, none⟩, ⟨none, .defer ⟨.value (.tmp t), #[], #[]⟩, ty', ps', af', none⟩] false).wp P Q a w := by
 obtain ⟨vs, hvs, hsem, _⟩ := opsD_ev hS.fx.get hc
 have hev : caps.toArray.map a.eval = vs.toArray := by
  have := hS.fx.frm.evals hvs
  rw [← this, ← List.map_toArray]
 have ht' : lkD L t = none := Option.isNone_iff_eq_none.1 ht
 rw [Nat.blt_eq] at ht2
 let a1 : Act := a.put (some t) (.func (.func f) #[] vs.toArray)
 have g1 : a1.tmps.getD t undef = .func (.func f) #[] vs.toArray := by simp [a1, Act.put, hS.size, ht2]
 let dd : Deferred := ⟨.fn (.func f) vs.toArray, #[]⟩
 let a2 : Act := { a1 with defers := dd :: a1.defers }
 have hSS : @SS ⟨[dd]⟩ n (footH H g) g w (lkD L) (lkH H) (· < nb) a2 g w := by
  refine @SS.mk ⟨[dd]⟩ _ _ _ _ _ _ _ _ _ _ (by simp [a2, a1, Act.put, hS.size]) (by show dd :: a.defers = [dd]; rw [hS.defers, hD0]) (fun u d hu => ?_) hS.hs (Go.refl _ _ _ fun x ⟨k, o, h1, h2⟩ => hS.hs.own k o h1 x h2) hS.hs.wf (fun k o hk b hb => .inl ⟨k, o, hk, hb⟩) hS.nm
  have hne : t ≠ u := fun e => by subst e; rw [ht'] at hu; cases hu
  have : a1.tmps.getD u undef = a.tmps.getD u undef := by simp [a1, Act.put, Array.getElem?_setIfInBounds_ne hne]
  show Sm g w d (a1.tmps.getD u undef)
  rw [this]
  exact hS.fr u d hu
 have fin := h ⟨[dd]⟩ vs a2 rfl hsem ⟨fun y ⟨k, o, h1, h2⟩ => hS.fp k o h1 y h2, hS.go, hS.wf0⟩ hSS
 refine wp_region ?_
 have key : wpOps P #[⟨some t, .makeFunc (.func f) #[] caps.toArray, ty, ps, af, none⟩, ⟨none, .defer ⟨.value (.tmp t), #[], #[]⟩, ty', ps', af', none⟩] Q [0, 1] a w := by
  simp only [wpOps, Region.wanted, List.getElem?_toArray, List.getElem?_cons_zero, List.getElem?_cons_succ, if_true, Oper.wp, execOp, Instr.makeFunc, Array.map_empty, Sem.run_bind, Sem.run_pure, Result.andThen_ok, Oper.upon_value, hev]
  have e1 : (a.put (some t) (.func (.func f) #[] vs.toArray)).eval (.tmp t) = .func (.func f) #[] vs.toArray := g1
  simp only [resolve, e1, Deferred.ofValue, Sem.run_bind, Sem.run_pure, Result.andThen_ok, Oper.upon_defer, Array.map_empty, Array.append_empty]
  exact .inl (.inl fin)
 exact key
theorem invoke_fn {f : FuncId} {xs : Array Value} (hc : Go.Mi.Callee P f) : (invoke (.fn (.func f) xs) #[]).run P w = .ok (.enter f xs) w := by
 obtain ⟨fn, h1, h2, h3⟩ := hc.ok
 simp only [invoke, callFunc, run_program, h1, h2, h3, Sem.run_bind, Result.andThen_ok, Array.empty_append]
 simp only [Bool.false_eq_true, if_false, Sem.run_pure]
theorem fin_b {S1 : Nat → Prop} {g1 : G} {w1 : World} {fn : Func} {c : Con} {ds : List D} (hB : Base S1 g1 w1 (c.foot g0) g0 w0) (hS : St n S1 g1 w1 L H nb a g w) (h : exRvs P L H fn.results.toList = some ds) (hr : weak (resD ds) c.res = c.res) (h1 : H1Ok H c.H1 true) :
  ∃ v, (results fn a.tmps).run P w = .ok v w ∧ ∃ g', CPost c g0 w0 v g' w := by
 obtain ⟨v, h2, h3⟩ := res_ok hS h
 have h4 : Sm g w c.res v := hr ▸ weak_ok h3
 have key : ∀ k o, lkC c.H1 k = some o → lkH H k = some o := by
  have : ∀ (r : Hc), H1Ok H r true → ∀ k o, lkC r k = some o → lkH H k = some o := by
   intro r
   induction r with
   | nil => intro _ k o h; cases h
   | cons p r ih =>
    obtain ⟨s, u⟩ := p
    intro hh k o h
    simp only [lkC] at h
    by_cases e : s = k
    ·subst e; simp at h; subst h; exact hh.1
    ·rw [beqf e] at h; exact ih hh.2 k o h
  exact this c.H1 h1
 refine ⟨v, h2, g, hB.go.trans hS.go hB.wf hB.s, h4, hS.hs.sub key, fun k o hk b hb => ?_⟩
 rcases hS.fp k o (key k o hk) b hb with h5 | h5
 ·exact hB.s b h5
 ·exact .inr (Nat.le_trans hB.go.ch.size h5)
theorem leaves_d {S1 : Nat → Prop} {g1 : G} {w1 : World} {fn : Func} {c : Con} {ds : List D} {u u' : FrameMode} {cs : List D} {vs : List Value} (q : CR) (Ho : Hp) (hB : Base S1 g1 w1 (c.foot g0) g0 w0) (hS : St n S1 g1 w1 L H nb a g w) (hcv : sem g1.X g1.N w1 (chain cs) true vs)
  (hu : u ≠ .run) (hset : settle u' = .returning) (hq : q.chk = true) (hqs : q.σ = []) (hc : ConOkD P q.f u u' q.c) (hcs : cs = q.c.args.map (D.ren q.r)) (hH0 : H0Ok H q.r q.c.H0) (hHo : Ho = q.eff.outs ++ H)
  (h : exRvs P L Ho fn.results.toList = some ds) (hr : weak (resD ds) c.res = c.res) (h1 : H1Ok Ho c.H1 true) :
  Leaves P fn a.tmps (Ret fun v w' => ∃ g', CPost c g0 w0 v g' w') [⟨.fn (.func q.f) vs.toArray, #[]⟩] u w := by
 have hq' := CRok.of hq
 have hv : sem g.X g.N w (chain (q.c.args.map (D.ren q.r))) true vs := by
  rw [← hcs]; exact sem_mv hS.go.goes _ _ _ hcv
 have hnw : q.eff.nw = [] := by simp only [CR.eff, hqs, List.filterMap_nil]
 have hHS : HS (resH (q.eff.rd ++ keys q.eff.wr) (lkH H)) g w := hS.hs.sub fun k o hk => by
  unfold resH at hk
  cases hm : memN k (q.eff.rd ++ keys q.eff.wr) with
  | true => rw [hm] at hk; exact hk
  | false => rw [hm] at hk; cases hk
 have hcall := call_postT (T := RetD P q.f u u') (fun {_ _ _ _} h hr => RetD.mono h hr) hq' hc.2 hH0 hHS (fun p hp => by rw [hnw] at hp; cases hp) hv
 refine leaves_cons hu (invoke_fn hc.1) (CallsD.mono hcall ?_)
 rintro e x w' ⟨v, rfl, rfl, g', hp⟩
 simp only
 rw [hset]
 have hS' : St n S1 g1 w1 L Ho nb a g' w' := by
  have := SS.step (dst := none) (L' := lkD L) (H' := lkH Ho) (nm' := (· < nb)) hS (fun t ht => by cases ht) hp (fun t d ht => .inr ⟨by simp, ht⟩) (fun k o hk => ?_) (fun k hk => hk.elim id fun hk => by rw [hnw] at hk; cases hk)
  ·exact this
  ·subst hHo
   have hk := lkH_some.1 hk
   rw [lkO_app] at hk
   cases hm : lkO q.eff.outs k with
   | some o' => rw [hm] at hk; cases hk; exact .inl (lkH_some.2 hm)
   | none => rw [hm] at hk; exact .inr ⟨fun hh => lkO_keys.1 hh hm, lkH_some.2 hk⟩
 obtain ⟨r, k1, k2⟩ := fin_b hB hS' h hr h1
 exact ⟨r, k1, r, rfl, k2⟩
theorem fin_dr {fn : Func} {R : Ending → World → Prop} {ds : List Deferred} {S1 : Nat → Prop} {e : Exit} (he : e = .normal ∨ e = .ret) (hS : St n S1 g0 w0 L H nb a g w) (hD : Dfr.ds = ds) (h : Leaves P fn a.tmps R ds .returning w) : bodyPostD P fn R e a w := by
 subst hD
 have h2 : Leaves P fn a.tmps R a.defers .returning w := by rw [hS.defers]; exact h
 rcases he with rfl | rfl <;> exact h2
end
end Go.Sx
namespace Go.Sx
open Go.Mi Go.RowKit
variable [Dfr]
def isN : D → Bool
 | .nil => true
 | _ => false
def frzD (ks : List Nat) (H : Hp) : D → D → D
 | .cons a b, d => (match d with
  | .cons c e => .cons (frzD ks H a c) (frzD ks H b e)
  | d => d)
 | .im p _, d => (match d with
  | .cp k o => bif memN k ks then (match lkH H k with
   | some (.ob _ dk) => bif isN p then .im .nil o else .im (frzD ks H p dk) o
   | _ => .cp k o) else .cp k o
  | .im dd o => bif isN p then .im .nil o else .im (frzD ks H p dd) o
  | d => d)
 | .top, d => bif d.isOne then .top else d
 | p, d => weak d p
def frzL (ks : List Nat) (H : Hp) : List D → List D → List D
 | p :: ps, d :: ds => frzD ks H p d :: frzL ks H ps ds
 | _, ds => ds
def exRd (q : CR) (ks : List Nat) (L : DL) (H : Hp) (op : Op) : Option (Eff × List Prop) := match op with
 | .call c => (match c.callee with
  | .value f => (match exFn L f c.args.toList with
   | some (f, ays) => bif Nat.beq f q.f && q.c.H0.isEmpty && q.c.H1.isEmpty && nofz q.c.res && q.c.res.nm.isEmpty && (q.c.args.all (allNm [])) && ays.all D.one then some (⟨ks, [], [], q.c.res⟩, [frzL ks H q.c.args ays = q.c.args]) else none
   | none => none)
  | _ => none)
 | _ => none
def lkR3 : List (Nat × CR × List Nat) → Nat → Option (CR × List Nat)
 | [], _ => none
 | (s, v) :: r, t => bif Nat.beq s t then some v else lkR3 r t
def C3Ok (P : Program) : List (Nat × CR × List Nat) → Prop
 | [] => True
 | (_, q, _) :: r => ConOk P q.f q.c ∧ C3Ok P r
theorem C3Ok.at {P : Program} : ∀ {C : List (Nat × CR × List Nat)} {i : Nat} {q : CR} {ks : List Nat}, C3Ok P C → lkR3 C i = some (q, ks) → ConOk P q.f q.c
 | (s, x) :: r, i, q, ks, h, hl => by
  simp only [lkR3] at hl
  by_cases e : s = i
  ·subst e; simp at hl; subst hl; exact h.1
  ·rw [beqf e] at hl; exact h.2.at hl
def exA3 (E : Env) (C : List (Nat × Rx)) (C2 : List (Nat × R2)) (C3 : List (Nat × CR × List Nat)) : Ex := fun i L H nb o => match lkR3 C3 i with
 | none => exA2 E C C2 i L H nb o
 | some (q, ks) => exRd q ks L H o.op
section
variable {P : Program} {n : Nat} {L : DL} {H : Hp} {ds : Option Nat} {ty : TypeId} {pos : String} {af : Array Edge} {gu : Option (Nat × Bool)} {g : G} {w : World}
theorem weak_okM {X : Nat → Prop} {N : Nat → Option Value} {w : World} {d e : D} {m : Bool} {l : List Value} (h : sem X N w d m l) : sem X N w (weak d e) m l := by
 unfold weak
 split
 ·obtain ⟨u, ls, h1, h2, h3⟩ := h; exact ⟨u, ls, h1, h2.gen, h3⟩
 ·have : l = [vN] := h
  subst this
  exact ⟨_, [], rfl, Lsl.nil, trivial⟩
 ·have : l = [vN] := h
  subst this
  exact ⟨_, rfl, rfl⟩
 ·split
  ·rename_i q hq
   obtain ⟨u, ls, h1, h2, h3⟩ := h
   subst h1
   exact ⟨u, rfl, (toF_ok (X := X) (N := N) (w := w) (m := m) (a := .os _) (d := .ls true _ _) ⟨u, ls, rfl, h2, h3⟩ hq).1⟩
  ·exact h
 ·exact h
def gfX (g : G) (ks : List Nat) : Nat → Prop := fun x => g.X x ∧ ∀ k ∈ ks, x ∉ g.F k
theorem nm_none {d : D} {N N' : Nat → Option Value} (h : d.nm = []) : ∀ k ∈ d.nm, N' k = N k := fun k hk => by rw [h] at hk; cases hk
theorem frzD_ok {ks : List Nat} (hS : HS (resH ks (lkH H)) g w) : ∀ {p d : D} {m : Bool} {l : List Value}, sem g.X g.N w d m l → (frzD ks H p d).plain = true → (frzD ks H p d).nm = [] → sem (gfX g ks) (fun _ => none) w (frzD ks H p d) m l := by
 have same : ∀ {d : D} {m : Bool} {l : List Value}, sem g.X g.N w d m l → d.plain = true → d.nm = [] → sem (gfX g ks) (fun _ => none) w d m l := fun h hp hn => sem_same hp (nm_none hn) (fun x hx => hx.1) h
 intro p
 induction p with
 | cons a b iha ihb =>
  intro d m l h hp hn
  cases d with
  | cons c e =>
   obtain ⟨l1, l2, rfl, h1, h2⟩ := h
   simp only [frzD, D.plain, Bool.and_eq_true, D.nm, List.append_eq_nil_iff] at hp hn ⊢
   exact ⟨l1, l2, rfl, iha h1 hp.1 hn.1, ihb h2 hp.2 hn.2⟩
  | _ => exact same h hp hn
 | im p o ih =>
  intro d m l h hp hn
  cases d with
  | cp k o' =>
   obtain ⟨b, h1, rfl⟩ := h
   simp only [frzD] at hp hn ⊢
   cases hm : memN k ks with
   | false => simp [hm, D.nm] at hn
   | true =>
    simp only [hm, cond_true] at hp hn ⊢
    split at hp
    ·rename_i ty dk hk
     rw [hk] at hn
     obtain ⟨b', c, k1, k2, k3, k4, k5⟩ := hS.os k _ (by simp only [resH, hm, cond_true]; exact hk)
     rw [h1] at k1
     cases k1
     have hb : ¬ gfX g ks b := fun hx => hx.2 k (memN_iff.1 hm) (by rw [k2]; simp)
     have hlt : b < w.heap.size := OS.lt (hS.os k (.ob ty dk) (by simp only [resH, hm, cond_true]; exact hk)) b (by rw [k2]; simp)
     cases hp2 : isN p with
     | true => exact ⟨b, [], hb, hlt, rfl, fun i u hu => by simp at hu, by simp, rfl⟩
     | false =>
      rw [hp2] at hp hn
      exact ⟨b, c.toList, hb, hlt, rfl, At.of_blk k3, k5, ih k4 hp hn⟩
    ·rename_i hno
     split at hn
     ·rename_i ty dk hk; exact absurd hk (hno ty dk)
     ·simp [D.nm] at hn
  | im dd o' =>
   obtain ⟨b, l', h1, h2, rfl, h3, h4, h5⟩ := h
   simp only [frzD] at hp hn ⊢
   cases hp2 : isN p with
   | true => exact ⟨b, [], fun hx => h1 hx.1, h2, rfl, fun i u hu => by simp at hu, by simp, rfl⟩
   | false =>
    simp only [hp2, cond_false, D.plain, D.nm] at hp hn ⊢
    exact ⟨b, l', fun hx => h1 hx.1, h2, rfl, h3, h4, ih h5 hp hn⟩
  | _ => exact same h hp hn
 | top =>
  intro d m l h hp hn
  simp only [frzD] at hp hn ⊢
  cases ho : d.isOne with
  | true => simp only [cond_true]; obtain ⟨v, h1, _⟩ := sem_isOne h ho; exact ⟨v, h1⟩
  | false => simp only [ho, cond_false] at hp hn ⊢; exact same h hp hn
 | _ => intro d m l h hp hn; exact same (weak_okM h) hp hn
theorem chain_same {ks : List Nat} : ∀ {ays : List D} {vs : List Value}, sem g.X g.N w (chain ays) true vs → (∀ d ∈ ays, allNm [] d = true) → sem (gfX g ks) (fun _ => none) w (chain ays) true vs
 | [], vs, h, _ => h
 | d :: ays, vs, ⟨l1, l2, e, h1, h2⟩, hn => by
  have h3 := hn d (List.mem_cons_self ..)
  simp only [allNm, Bool.and_eq_true, List.all_eq_true] at h3
  have h4 : d.nm = [] := List.eq_nil_iff_forall_not_mem.2 fun k hk => by have := h3.2 k hk; cases this
  exact ⟨l1, l2, e, sem_same h3.1 (nm_none h4) (fun x hx => hx.1) h1, chain_same h2 fun e he => hn e (List.mem_cons_of_mem _ he)⟩
theorem frzL_ok {ks : List Nat} (hS : HS (resH ks (lkH H)) g w) : ∀ {ps ays : List D} {vs : List Value}, sem g.X g.N w (chain ays) true vs → (∀ d ∈ frzL ks H ps ays, allNm [] d = true) → sem (gfX g ks) (fun _ => none) w (chain (frzL ks H ps ays)) true vs
 | [], ays, vs, h, hn => by
  have e : frzL ks H [] ays = ays := by cases ays <;> rfl
  rw [e] at hn ⊢
  exact chain_same h hn
 | p :: ps, [], vs, h, hn => h
 | p :: ps, d :: ays, vs, ⟨l1, l2, e, h1, h2⟩, hn => by
  have h3 := hn (frzD ks H p d) (List.mem_cons_self ..)
  simp only [allNm, Bool.and_eq_true, List.all_eq_true] at h3
  have h4 : (frzD ks H p d).nm = [] := List.eq_nil_iff_forall_not_mem.2 fun k hk => by have := h3.2 k hk; cases this
  exact ⟨l1, l2, e, frzD_ok hS h1 h3.1 h4, frzL_ok hS h2 fun e he => hn e (List.mem_cons_of_mem _ he)⟩
theorem exRd_ok {q : CR} {ks : List Nat} {op : Op} {e : Eff} {ps : List Prop} (hc : ConOk P q.f q.c) (h : exRd q ks L H op = some (e, ps)) (hp : AllP ps) : EOk P n ⟨ds, op, ty, pos, af, gu⟩ L (lkH H) e := by
 unfold exRd at h
 split at h
 ·rename_i c
  obtain ⟨cl, xs, ts⟩ := c
  simp only at h
  split at h
  ·rename_i f
   split at h
   ·rename_i f' ays hfn
    cases hb : Nat.beq f' q.f && q.c.H0.isEmpty && q.c.H1.isEmpty && nofz q.c.res && q.c.res.nm.isEmpty && (q.c.args.all (allNm [])) && ays.all D.one with
    | false => rw [hb] at h; cases h
    | true =>
     rw [hb] at h
     simp only [Bool.and_eq_true, List.all_eq_true, List.isEmpty_iff] at hb
     obtain ⟨⟨⟨⟨⟨⟨b1, b2⟩, b3⟩, b4⟩, b5⟩, b6⟩, b7⟩ := hb
     have b1 := Nat.eq_of_beq_eq_true b1
     subst b1
     cases h
     have hp := hp.1
     intro ξ g w hS hH hn
     have hS : HS (resH ks (lkH H)) g w := by simpa [keys] using hS
     have fin : ∀ {vs : List Value}, sem g.X g.N w (chain ays) true vs → Calls P q.f vs.toArray w (Ret fun v w' => ∃ g', Post (lkH H) ⟨ks, [], [], q.c.res⟩ g w v g' w') := fun {vs} hv => by
      have h1 := frzL_ok (ps := q.c.args) hS hv (by rw [hp]; exact b6)
      rw [hp] at h1
      let gf : G := ⟨fun _ => none, g.F, gfX g ks⟩
      have hnone : ∀ k o, lkC q.c.H0 k ≠ some o := fun k o => by rw [b2]; simp [lkC]
      refine (hc.2 vs gf w ⟨fun x hx => hS.wf x hx.1, fun k o hk => (hnone k o hk).elim, fun k o hk => (hnone k o hk).elim, fun k o k' o' hk => (hnone k o hk).elim⟩ (fun k v hk => by cases hk) h1).mono ?_
      rintro en w' ⟨v, rfl, g', hpo⟩
      have hf : ∀ x, ¬ q.c.foot gf x := fun x ⟨k, o, hk, _⟩ => hnone k o hk
      have hno : ∀ j u, lkH (Eff.outs ⟨ks, [], [], q.c.res⟩) j ≠ some u := fun j u h => by simp [Eff.outs, lkH, lkO] at h
      have hft : ∀ x, ¬ Eff.foot ⟨ks, [], [], q.c.res⟩ (lkH H) g x := fun x ⟨k, hk, _⟩ => by simp [keys] at hk
      refine ⟨v, rfl, g, ⟨⟨hpo.go.ch.os, hpo.go.ch.tape, hpo.go.ch.output, hpo.go.ch.size, fun b hb _ => hpo.go.ch.blk b hb (hf b)⟩, fun x hx => (hft x hx).elim, fun x hx => .inl hx, fun x hx _ => hx, fun _ _ h => h, fun _ _ _ => rfl⟩, nofz_ok b4 (nm_none b5) hpo.r, ⟨fun x hx => Nat.lt_of_lt_of_le (hS.wf x hx) hpo.go.ch.size, fun j u h => (hno j u h).elim, fun j u h => (hno j u h).elim, fun j u _ _ h => (hno j u h).elim⟩, fun j u h => (hno j u h).elim, fun k v h => .inl h⟩
     unfold exFn at hfn
     split at hfn
     ·rename_i f0 first captured as' hx has
      cases he : first.isEmpty && captured.isEmpty with
      | false => rw [he] at hfn; cases hfn
      | true =>
       rw [he] at hfn
       simp only [cond_true, Option.some.injEq, Prod.mk.injEq] at hfn
       obtain ⟨rfl, rfl⟩ := hfn
       rw [Bool.and_eq_true, Array.isEmpty_iff, Array.isEmpty_iff] at he
       obtain ⟨rfl, rfl⟩ := he
       obtain ⟨vs, k1, k2, _⟩ := opsD_ev hH has
       refine ok_callv (first := #[]) (captured := #[]) (opD_v hH hx) hc.1 k1 ?_
       simpa using fin k2
     ·rename_i f0 a b as' hx has
      split at hfn
      ·rename_i a' b' ha hb'
       simp only [Option.some.injEq, Prod.mk.injEq] at hfn
       obtain ⟨rfl, rfl⟩ := hfn
       obtain ⟨v, hv, va, vb, h1, h2, h3⟩ := opD_ev hH hx
       cases (List.cons.inj h3).1
       obtain ⟨vs, k1, k2, _⟩ := opsD_ev hH has
       refine ok_callv hv hc.1 k1 ?_
       have := fin (chain_app (chain_app (unch_ok ha h1) k2) (unch_ok hb' h2))
       simpa using this
      ·cases hfn
     ·cases hfn
   ·cases h
  ·cases h
 ·cases h
theorem exA3_ok {E : Env} {C : List (Nat × Rx)} {C2 : List (Nat × R2)} {C3 : List (Nat × CR × List Nat)} (hZ : ZOk E.P E.Z) (hC : CsOk E.P C) (hC3 : C3Ok E.P C3) : ExOk E.P n (exA3 E C C2 C3) := by
 intro i L H nb o e ps h hp
 unfold exA3 at h
 split at h
 ·exact exA2_ok hZ hC i L H nb o e ps h hp
 ·rename_i q ks hq
  obtain ⟨ds, op, ty, pos, af, gu⟩ := o
  exact exRd_ok (hC3.at hq) h hp
end
end Go.Sx
namespace Go.Sx
open Go.Mi Go.RowKit
variable [Dfr]
theorem rounds_s {P : Program} {c : Code} {Q : Exit → Act → World → Prop} {n : Nat} {a : Act} {w : World} (h : c.wp P (Exit.then (Code.rounds P c Q n) Q) a w) : Code.rounds P c Q (n + 1) a w := h
end Go.Sx
namespace Go.Sx
open Go.Mi Go.RowKit
variable [Dfr]
abbrev Sg := DL × Hp
def Sp (n : Nat) (S0 : Nat → Prop) (g0 : G) (w0 : World) (σ : Sg) (nb : Nat) (a : Act) (g : G) (w : World) : Prop := St n S0 g0 w0 σ.1 σ.2 nb a g w
abbrev Px := Option (List Prop × DL × Hp × Nat)
def xS : Px → Sg
 | some (_, L, H, _) => (L, H)
 | none => ([], [])
def xP (r : Px) : Option (List Prop × Nat) := r.map fun x => (x.1, x.2.2.2)
theorem xP_of {r : Px} {ps : List Prop} {nb : Nat} (h : xP r = some (ps, nb)) : r = some (ps, (xS r).1, (xS r).2, nb) := by
 obtain ⟨⟨p, L, H, m⟩, rfl, h2⟩ := Option.map_eq_some_iff.1 h
 simp only [Prod.mk.injEq] at h2
 obtain ⟨rfl, rfl⟩ := h2
 rfl
section
variable {P : Program} {n : Nat} {L : DL} {H : Hp} {σ : Sg} {S0 : Nat → Prop} {g0 g : G} {w0 w : World} {nb : Nat} {a : Act} {Q : Exit → Act → World → Prop}
theorem SS.sp (hS : St n S0 g0 w0 L H nb a g w) : Sp n S0 g0 w0 (L, H) nb a g w := hS
theorem Sp.st (hS : Sp n S0 g0 w0 σ nb a g w) : St n S0 g0 w0 σ.1 σ.2 nb a g w := hS
abbrev plS (n : Nat) (ops : List Oper) (ex : Ex) (σ : Sg) (nb : Nat) (kL kH : List Nat) : Px := plX n ops ex σ.1 σ.2 nb kL kH
theorem reg_y {id : Nat} {dr : Bool} {ops : List Oper} {ex : Ex} (hm : P.follows .mixedOrders = true) (hex : ExOk P n ex) (ps : List Prop) (kL kH : List Nat) (nb' : Nat) (hp : AllP ps) (hS : Sp n S0 g0 w0 σ nb a g w) (hend : ∀ a g w, Sp n S0 g0 w0 (xS (plS n ops ex σ nb kL kH)) nb' a g w → Q .normal a w)
  (h : xP (plS n ops ex σ nb kL kH) = some (ps, nb')) (hle : Nat.ble nb nb' = true) : (Code.region id ops.toArray dr).wp P Q a w :=
 region_x hm hex (xP_of h) hp hle hS hend
theorem Sp.rv (hS : Sp n S0 g0 w0 σ nb a g w) (L' : DL) (H' : Hp) (hL : pickD σ.1 (keys L') = L' := by kernel_rfl) (hH : pickH σ.2 (keys H') = H' := by kernel_rfl) : St n S0 g0 w0 L' H' nb a g w :=
 SS.weak hS (fun t d ht => (lk_pickD (ts := keys L') (by rw [hL]; exact ht)).2) (fun k o hk => lkH_pick (ts := keys H') (by rw [hH]; exact hk)) fun _ h => h
theorem if_y {x y : Code} {c : Operand} (t : Bool) (hS : Sp n S0 g0 w0 σ nb a g w) (ht : t = true → x.wp P Q a w) (hf : t = false → y.wp P Q a w) (hc : opD σ.1 c = some (.v (.bool t)) := by kernel_rfl) : (Code.cond c x y).wp P Q a w :=
 if_x hS.st hc ht hf
theorem if_d {x y : Code} {c : Operand} (p : Prop) [Decidable p] (hS : Sp n S0 g0 w0 σ nb a g w) (ht : p → x.wp P Q a w) (hf : ¬ p → y.wp P Q a w) (hc : opD σ.1 c = some (.v (.bool (decide p))) := by kernel_rfl) : (Code.cond c x y).wp P Q a w :=
 if_x hS.st hc (fun h => ht (of_decide_eq_true h)) fun h => hf (of_decide_eq_false h)
theorem if_n {x y : Code} {c : Operand} (p : Prop) [Decidable p] (hS : Sp n S0 g0 w0 σ nb a g w) (ht : ¬ p → x.wp P Q a w) (hf : p → y.wp P Q a w) (hc : opD σ.1 c = some (.v (.bool (!decide p))) := by kernel_rfl) : (Code.cond c x y).wp P Q a w :=
 if_x hS.st hc (fun h => ht fun hp => by rw [decide_eq_true hp] at h; cases h) fun h => hf (by simpa using h)
theorem cond_t {x y : Code} {c : Operand} (hS : Sp n S0 g0 w0 σ nb a g w) (h : x.wp P Q a w) (hc : opD σ.1 c = some (.v (.bool true)) := by kernel_rfl) : (Code.cond c x y).wp P Q a w :=
 if_x hS.st hc (fun _ => h) fun h => nomatch h
theorem cond_f {x y : Code} {c : Operand} (hS : Sp n S0 g0 w0 σ nb a g w) (h : y.wp P Q a w) (hc : opD σ.1 c = some (.v (.bool false)) := by kernel_rfl) : (Code.cond c x y).wp P Q a w :=
 if_x hS.st hc (fun h => nomatch h) fun _ => h
theorem Sp.ren {ks0 : List Nat} (hg0 : ∀ k v, g0.N k = some v → k ∈ ks0) (hS : Sp n S0 g0 w0 σ nb a g w) (ρ : Ren) (L' : DL) (H' : Hc) (nb' : Nat) (hc : chkRen ρ ks0 L' H' nb' = true) (hL : pickD σ.1 (keys L') = L'.map fun p => (p.1, p.2.ren (rn ρ))) (hH : (H'.map fun p => lkH σ.2 (rn ρ p.1)) = H'.map fun p => some (p.2.ren (rn ρ))) : ∃ g', St n S0 g0 w0 L' (hpC H') nb' a g' w := by
 refine St.ren hg0 hS.st ρ L' H' nb' hc hL ?_
 clear hc hL
 induction H' with
 | nil => trivial
 | cons p r ih =>
  obtain ⟨j, o⟩ := p
  simp only [List.map_cons, List.cons.injEq] at hH
  exact ⟨hH.1, ih hH.2⟩
theorem Sp.rn {ks0 : List Nat} (hS : Sp n S0 g0 w0 σ nb a g w) (ρ : Ren) (L' : DL) (H' : Hc) (nb' : Nat) (hg0 : ∀ k v, g0.N k = some v → k ∈ ks0) (hc : chkRen ρ ks0 L' H' nb' = true := by kernel_rfl) (hL : pickD σ.1 (keys L') = L'.map fun p => (p.1, p.2.ren (rn ρ)) := by kernel_rfl) (hH : (H'.map fun p => lkH σ.2 (rn ρ p.1)) = (H'.map fun p => some (p.2.ren (rn ρ))) := by kernel_rfl) : ∃ g', Sp n S0 g0 w0 (L', hpC H') nb' a g' w :=
 Sp.ren hg0 hS ρ L' H' nb' hc hL hH
theorem loop_y {ι : Type} {code : Code} {ks0 : List Nat} (hg0 : ∀ k v, g0.N k = some v → k ∈ ks0) (hS : Sp n S0 g0 w0 σ nb a g w) (m : ι → Nat) (Li : ι → DL) (Hi : ι → Hc) (Pi : ι → Prop) (nb' : Nat) (s0 : ι) (ρ : Ren) (hP : Pi s0)
  (step : ∀ s a g w, Pi s → Sp n S0 g0 w0 (Li s, hpC (Hi s)) nb' a g w → code.wp P (Exit.then (fun a' w' => ∃ s', m s' < m s ∧ Pi s' ∧ ∃ g', Sp n S0 g0 w0 (Li s', hpC (Hi s')) nb' a' g' w') Q) a w)
  (h1 : chkRen ρ ks0 (Li s0) (Hi s0) nb' = true := by kernel_rfl) (h2 : pickD σ.1 (keys (Li s0)) = (Li s0).map fun p => (p.1, p.2.ren (rn ρ)) := by kernel_rfl) (h3 : ((Hi s0).map fun p => lkH σ.2 (rn ρ p.1)) = ((Hi s0).map fun p => some (p.2.ren (rn ρ))) := by kernel_rfl) : (Code.loop code).wp P Q a w := by
 obtain ⟨g', hS'⟩ := Sp.ren hg0 hS ρ (Li s0) (Hi s0) nb' h1 h2 h3
 exact loop_x m Li (fun s => hpC (Hi s)) Pi s0 hP hS' step
theorem next_y {ι : Type} {ks0 : List Nat} (hg0 : ∀ k v, g0.N k = some v → k ∈ ks0) (hS : Sp n S0 g0 w0 σ nb a g w) {m : ι → Nat} {Li : ι → DL} {Hi : ι → Hc} {Pi : ι → Prop} {nb' : Nat} {s : ι} (s' : ι) (ρ : Ren) (hm : m s' < m s) (hP : Pi s') (h1 : chkRen ρ ks0 (Li s') (Hi s') nb' = true := by kernel_rfl) (h2 : pickD σ.1 (keys (Li s')) = (Li s').map fun p => (p.1, p.2.ren (rn ρ)) := by kernel_rfl) (h3 : ((Hi s').map fun p => lkH σ.2 (rn ρ p.1)) = ((Hi s').map fun p => some (p.2.ren (rn ρ))) := by kernel_rfl) :
  ∃ s', m s' < m s ∧ Pi s' ∧ ∃ g', Sp n S0 g0 w0 (Li s', hpC (Hi s')) nb' a g' w := by
 obtain ⟨g', hS'⟩ := Sp.ren hg0 hS ρ (Li s') (Hi s') nb' h1 h2 h3
 exact ⟨s', hm, hP, g', hS'⟩
def frd (nn : Bool) : Option O → D
 | some (.sl _ e xs) => .ls nn e xs
 | _ => .top
def isSl : Option O → Bool
 | some (.sl ..) => true
 | _ => false
def obd : Option O → D
 | some (.ob _ d) => d
 | _ => .nil
def oty : Option O → TypeId
 | some (.ob t _) => t
 | _ => 0
def isOb : Option O → Bool
 | some (.ob ..) => true
 | _ => false
theorem isSl_of {o : Option O} (h : isSl o = true) : ∃ te e xs, o = some (.sl te e xs) := by
 cases o with
 | none => cases h
 | some o => cases o with
  | ob => cases h
  | sl te e xs => exact ⟨te, e, xs, rfl⟩
theorem isOb_of {o : Option O} (h : isOb o = true) : o = some (.ob (oty o) (obd o)) := by
 cases o with
 | none => cases h
 | some o => cases o with
  | sl => cases h
  | ob t d => rfl
theorem Sp.fz (hS : Sp n S0 g0 w0 σ nb a g w) (k : Nat) (hk : isSl (lkH σ.2 k) = true := by kernel_rfl) : ∃ g', Sp n S0 g0 w0 (σ.1.map fun p => (p.1, p.2.sb k (fun o => .cp k o) (frd false (lkH σ.2 k))), (k, none) :: σ.2.map fun p => (p.1, p.2.map (O.sb · k (fun o => .cp k o) (frd false (lkH σ.2 k))))) nb a g' w := by
 obtain ⟨te, e, xs, h⟩ := isSl_of hk
 rw [h]
 exact St.frz hS.st k false nofun h rfl rfl
theorem Sp.im (hS : Sp n S0 g0 w0 σ nb a g w) (k : Nat) (hk : isOb (lkH σ.2 k) = true := by kernel_rfl) : ∃ g', Sp n S0 g0 w0 (σ.1.map fun p => (p.1, p.2.sb k (fun o => .im (obd (lkH σ.2 k)) o) (.sk k)), (k, none) :: σ.2.map fun p => (p.1, p.2.map (O.sb · k (fun o => .im (obd (lkH σ.2 k)) o) (.sk k)))) nb a g' w :=
 St.imm hS.st k (isOb_of hk) rfl rfl
theorem Sp.wk (hS : Sp n S0 g0 w0 σ nb a g w) (t : Nat) (e : D) (ht : (lkD σ.1 t).isSome = true := by kernel_rfl) : Sp n S0 g0 w0 (upL t (weak ((lkD σ.1 t).getD .top) e) σ.1, σ.2) nb a g w := by
 obtain ⟨d, hd⟩ := Option.isSome_iff_exists.1 ht
 rw [hd]
 exact St.wk hS.st t e hd rfl
theorem Sp.wko (hS : Sp n S0 g0 w0 σ nb a g w) (k : Nat) (es : List D) (hk : isOb (lkH σ.2 k) = true := by kernel_rfl) : Sp n S0 g0 w0 (σ.1, (k, some (.ob (oty (lkH σ.2 k)) (wkC (obd (lkH σ.2 k)) es))) :: σ.2) nb a g w :=
 St.wko hS.st k es (isOb_of hk) rfl
theorem Sp.alias (hS : Sp n S0 g0 w0 σ nb a g w) (k : Nat) (hk : (lkH σ.2 k).isSome = true := by kernel_rfl) : ∃ g', Sp n S0 g0 w0 (σ.1.map fun p => (p.1, p.2.sb k (fun o => .cp nb o) (.sk nb)), (k, none) :: (nb, (lkH σ.2 k).map (O.sb · k (fun o => .cp nb o) (.sk nb))) :: σ.2.map fun p => (p.1, p.2.map (O.sb · k (fun o => .cp nb o) (.sk nb)))) (nb + 1) a g' w := by
 obtain ⟨o, ho⟩ := Option.isSome_iff_exists.1 hk
 rw [ho]
 exact St.alias hS.st k ho rfl rfl
theorem Sp.nilk (hS : Sp n S0 g0 w0 σ nb a g w) (t : Nat) (te : TypeId) (e : List Fk) (ht : lkD σ.1 t = some (.v (.slice none 0 0)) := by kernel_rfl) : ∃ g', Sp n S0 g0 w0 (upL t (.sk nb) σ.1, (nb, some (.sl te e [])) :: σ.2) (nb + 1) a g' w :=
 St.nilk hS.st t te e ht rfl rfl
def isSm : Option D → Bool := Option.isSome
theorem Sp.nilob (hS : Sp n S0 g0 w0 σ nb a g w) (k i : Nat) (te : TypeId) (e : List Fk) (hk : isOb (lkH σ.2 k) = true := by kernel_rfl) (hd : isSm (nlD nb i (obd (lkH σ.2 k))) = true := by kernel_rfl) : ∃ g', Sp n S0 g0 w0 (σ.1, (nb, some (.sl te e [])) :: (k, some (.ob (oty (lkH σ.2 k)) ((nlD nb i (obd (lkH σ.2 k))).getD .nil))) :: σ.2) (nb + 1) a g' w := by
 obtain ⟨d', h⟩ := Option.isSome_iff_exists.1 hd
 rw [h]
 exact St.nilob hS.st k i te e (isOb_of hk) h rfl
theorem Sp.nilor (hS : Sp n S0 g0 w0 σ nb a g w) (t : Nat) (e : List Fk) (xs : List (RT e)) (ht : lkD σ.1 t = some (.ls false e xs) := by kernel_rfl) : (xs = [] ∧ Sp n S0 g0 w0 (upL t (.v (.slice none 0 0)) σ.1, σ.2) nb a g w) ∨ Sp n S0 g0 w0 (upL t (.ls true e xs) σ.1, σ.2) nb a g w :=
 St.nilor hS.st t ht rfl rfl
theorem fin_y (hD : Dfr.ds = ([] : List Deferred)) {fn : Func} {c : Con} {e : Exit} (he : e = .normal ∨ e = .ret) (hS : Sp n (c.foot g0) g0 w0 σ nb a g w) (ds : List D) (Hx : Hp) (hr : weak (resD ds) c.res = c.res) (h1 : H1Ok Hx c.H1 true) (h : exRvs P σ.1 σ.2 fn.results.toList = some ds := by kernel_rfl) (hx : pickH σ.2 (keys Hx) = Hx := by kernel_rfl) : bodyPost P fn (Ret fun v w' => ∃ g', CPost c g0 w0 v g' w') e a w := by
 refine fin_x hD he hS.st h hr ?_
 have key : ∀ (r : Hc), H1Ok Hx r true → H1Ok σ.2 r true := by
  intro r
  induction r with
  | nil => exact fun h => h
  | cons p r ih =>
   obtain ⟨k, o⟩ := p
   exact fun h => ⟨lkH_pick (ts := keys Hx) (by rw [hx]; exact h.1), ih h.2⟩
 exact key _ h1
end
end Go.Sx
namespace Go.Sx.Tryz
open Go.Mi Go.RowKit Go.Sx Go.Proofs
def Z0 : Zt := [(3, [.v (.int .i64 0)]),
 (5, [.v (.int .u8 0)]),
 (22, [.v (.slice none 0 0)]),
 (35, [.v (.int .i64 0), .v (.int .i64 0), .v (.slice none 0 0)]),
 (39, [.v (.pointer none), .v (.pointer none), .v (.int .i64 0), .v (.int .i64 0), .v (.slice none 0 0), .v (.int .i64 0), .v (.int .i64 0), .v (.slice none 0 0), .v (.slice none 0 0)]),
 (44, [.v (.int .i64 0)]),
 (48, [.v (.int .i64 0), .v (.int .i64 0), .v (.slice none 0 0), .v (.slice none 0 0)]),
 (76, [.v (.pointer none)]),
 (80, [.v (.slice none 0 0), .v (.bool false), .v (.bool false), .v (.pointer none), .v (.pointer none), .v (.pointer none), .v (.int .i64 0), .v (.slice none 0 0), .v (.int .i64 0), .v (.int .i64 0), .v (.slice none 0 0)]),
 (86, [.v (.int .i64 0), .v (.int .i64 0), .v (.slice none 0 0)]),
 (97, [.v (.slice none 0 0)]),
 (115, [.v (.slice none 0 0), .v (.int .i64 0), .v (.int .i64 0), .v (.int .i64 0), .v (.slice none 0 0), .v (.slice none 0 0)]),
 (122, [.v (.slice none 0 0), .v (.int .i64 0)]),
 (126, [.v (.int .i64 0), .v (.int .i64 0), .v (.int .i64 0), .v (.int .i64 0), .v (.slice none 0 0), .v (.slice none 0 0), .v (.pointer none), .v (.slice none 0 0)]),
 (129, [.v (.slice none 0 0)]),
 (133, [.v (.int .i64 0), .v (.int .i64 0), .v (.int .i64 0), .v (.slice none 0 0)]),
 (148, [.v (.pointer none)]),
 (172, [.v (.slice none 0 0), .v (.pointer none)]),
 (177, [.ar .u32 8 (fun _ => 0)]),
 (179, [.ar .u32 8 (fun _ => 0), .v (.slice none 0 0), .v (.int .u64 0)]),
 (181, [.v (.pointer none), .v (.pointer none)]),
 (182, [.ar .u8 64 (fun _ => 0)]),
 (187, [.v (.int .i64 0), .v (.int .i64 0), .v (.int .i64 0), .v (.slice none 0 0)]),
 (188, [.v (.slice none 0 0)]),
 (197, [.ar .u64 80 (fun _ => 0)]),
 (199, [.ar .u64 8 (fun _ => 0)]),
 (201, [.ar .u32 64 (fun _ => 0)]),
 (205, [.v (.pointer none)]),
 (210, [.v (.int .u16 0)]),
 (212, [.ar .u16 256 (fun _ => 0)]),
 (214, [.ar .u16 768 (fun _ => 0)]),
 (233, [.ar .u32 128 (fun _ => 0)]),
 (241, [.ar .u8 16 (fun _ => 0)]),
 (248, [.ar .u64 25 (fun _ => 0)]),
 (250, [.ar .u64 25 (fun _ => 0), .v (.int .i64 0), .v (.int .i64 0)]),
 (258, [.ar .u8 256 (fun _ => 0), .ar .u8 240 (fun _ => 0)]),
 (260, [.ar .u8 4 (fun _ => 0)]),
 (263, [.ar .u64 25 (fun _ => 0)]),
 (266, [.v .nilFunc, .v .nilFunc, .v .nilFunc]),
 (267, [.ar .u64 24 (fun _ => 0)]),
 (270, [.v (.pointer none)]),
 (273, [.ar .u64 5 (fun _ => 0)])]
def K0 : Kt := [(3, [.int .i64]), (5, [.int .u8]), (22, [.sl (.int .u8)]), (48, [.int .i64, .int .i64, .sl (.int .u8), .sl (.int .u8)]), (76, [.ref]), (86, [.int .i64, .int .i64, .sl (.sl (.int .u8))]), (133, [.int .i64, .int .i64, .int .i64, .sl (.int .u8)]), (148, [.ref]), (205, [.ref]), (210, [.int .u16])]
noncomputable def E0 : Env := ⟨Tryz.prog, Z0, K0⟩
set_option maxRecDepth 100000 in
theorem hZ : ZOk Tryz.prog Z0 := ⟨⟨by kernel_rfl, by kernel_rfl⟩, ⟨by kernel_rfl, by kernel_rfl⟩, ⟨by kernel_rfl, by kernel_rfl⟩, ⟨by kernel_rfl, by kernel_rfl⟩, ⟨by kernel_rfl, by kernel_rfl⟩, ⟨by kernel_rfl, by kernel_rfl⟩, ⟨by kernel_rfl, by kernel_rfl⟩, ⟨by kernel_rfl, by kernel_rfl⟩, ⟨by kernel_rfl, by kernel_rfl⟩, ⟨by kernel_rfl, by kernel_rfl⟩, ⟨by kernel_rfl, by kernel_rfl⟩, ⟨by kernel_rfl, by kernel_rfl⟩, ⟨by kernel_rfl, by kernel_rfl⟩, ⟨by kernel_rfl, by kernel_rfl⟩, ⟨by kernel_rfl, by kernel_rfl⟩, ⟨by kernel_rfl, by kernel_rfl⟩, ⟨by kernel_rfl, by kernel_rfl⟩, ⟨by kernel_rfl, by kernel_rfl⟩, ⟨by kernel_rfl, by kernel_rfl⟩, ⟨by kernel_rfl, by kernel_rfl⟩, ⟨by kernel_rfl, by kernel_rfl⟩, ⟨by kernel_rfl, by kernel_rfl⟩, ⟨by kernel_rfl, by kernel_rfl⟩, ⟨by kernel_rfl, by kernel_rfl⟩, ⟨by kernel_rfl, by kernel_rfl⟩, ⟨by kernel_rfl, by kernel_rfl⟩, ⟨by kernel_rfl, by kernel_rfl⟩, ⟨by kernel_rfl, by kernel_rfl⟩, ⟨by kernel_rfl, by kernel_rfl⟩, ⟨by kernel_rfl, by kernel_rfl⟩, ⟨by kernel_rfl, by kernel_rfl⟩, ⟨by kernel_rfl, by kernel_rfl⟩, ⟨by kernel_rfl, by kernel_rfl⟩, ⟨by kernel_rfl, by kernel_rfl⟩, ⟨by kernel_rfl, by kernel_rfl⟩, ⟨by kernel_rfl, by kernel_rfl⟩, ⟨by kernel_rfl, by kernel_rfl⟩, ⟨by kernel_rfl, by kernel_rfl⟩, ⟨by kernel_rfl, by kernel_rfl⟩, ⟨by kernel_rfl, by kernel_rfl⟩, ⟨by kernel_rfl, by kernel_rfl⟩, ⟨by kernel_rfl, by kernel_rfl⟩, trivial⟩
theorem mo : Tryz.prog.follows .mixedOrders = true := by kernel_rfl
section
variable [Dfr]
theorem r0 {n : Nat} {σ : Sg} {S0 : Nat → Prop} {g0 g : G} {w0 w : World} {nb : Nat} {a : Act} {Q : Exit → Act → World → Prop} (kL kH : List Nat) (nb' : Nat) {id : Nat} {dr : Bool} {ops : List Oper} (hS : Sp n S0 g0 w0 σ nb a g w) (hend : ∀ a g w, Sp n S0 g0 w0 (xS (plS n ops (exA E0 []) σ nb kL kH)) nb' a g w → Q .normal a w) (h : xP (plS n ops (exA E0 []) σ nb kL kH) = some ([], nb') := by kernel_rfl) (hle : Nat.ble nb nb' = true := by kernel_rfl) : (Code.region id ops.toArray dr).wp Tryz.prog Q a w := reg_y mo (exA_ok (C := []) hZ (show CsOk Tryz.prog [] from trivial)) [] kL kH nb' trivial hS hend h hle
theorem rA {n : Nat} {σ : Sg} {S0 : Nat → Prop} {g0 g : G} {w0 w : World} {nb : Nat} {a : Act} {Q : Exit → Act → World → Prop} (C : List (Nat × Rx)) (hC : CsOk Tryz.prog C) (ps : List (Nat × Rx) → List Prop) (kL kH : List Nat) (nb' : Nat) {id : Nat} {dr : Bool} {ops : List Oper} (hp : AllP (ps C)) (hS : Sp n S0 g0 w0 σ nb a g w) (hend : ∀ a g w, Sp n S0 g0 w0 (xS (plS n ops (exA E0 C) σ nb kL kH)) nb' a g w → Q .normal a w) (h : xP (plS n ops (exA E0 C) σ nb kL kH) = some ((ps C), nb') := by kernel_rfl) (hle : Nat.ble nb nb' = true := by kernel_rfl) : (Code.region id ops.toArray dr).wp Tryz.prog Q a w := reg_y mo (exA_ok hZ hC) (ps C) kL kH nb' hp hS hend h hle
theorem rB {n : Nat} {σ : Sg} {S0 : Nat → Prop} {g0 g : G} {w0 w : World} {nb : Nat} {a : Act} {Q : Exit → Act → World → Prop} (C2 : List (Nat × R2)) (C : List (Nat × Rx)) (hC : CsOk Tryz.prog C) (ps : List (Nat × Rx) → List Prop) (kL kH : List Nat) (nb' : Nat) {id : Nat} {dr : Bool} {ops : List Oper} (hp : AllP (ps C)) (hS : Sp n S0 g0 w0 σ nb a g w) (hend : ∀ a g w, Sp n S0 g0 w0 (xS (plS n ops (exA2 E0 C C2) σ nb kL kH)) nb' a g w → Q .normal a w) (h : xP (plS n ops (exA2 E0 C C2) σ nb kL kH) = some ((ps C), nb') := by kernel_rfl) (hle : Nat.ble nb nb' = true := by kernel_rfl) : (Code.region id ops.toArray dr).wp Tryz.prog Q a w := reg_y mo (exA2_ok hZ hC) (ps C) kL kH nb' hp hS hend h hle
theorem rC {n : Nat} {σ : Sg} {S0 : Nat → Prop} {g0 g : G} {w0 w : World} {nb : Nat} {a : Act} {Q : Exit → Act → World → Prop} (C3 : List (Nat × CR × List Nat)) (hC3 : C3Ok Tryz.prog C3) (C2 : List (Nat × R2)) (C : List (Nat × Rx)) (hC : CsOk Tryz.prog C) (ps : List (Nat × Rx) → List Prop) (kL kH : List Nat) (nb' : Nat) {id : Nat} {dr : Bool} {ops : List Oper} (hp : AllP (ps C)) (hS : Sp n S0 g0 w0 σ nb a g w) (hend : ∀ a g w, Sp n S0 g0 w0 (xS (plS n ops (exA3 E0 C C2 C3) σ nb kL kH)) nb' a g w → Q .normal a w) (h : xP (plS n ops (exA3 E0 C C2 C3) σ nb kL kH) = some ((ps C), nb') := by kernel_rfl) (hle : Nat.ble nb nb' = true := by kernel_rfl) : (Code.region id ops.toArray dr).wp Tryz.prog Q a w := reg_y mo (exA3_ok hZ hC hC3) (ps C) kL kH nb' hp hS hend h hle
theorem s0 {n : Nat} {σ : Sg} {S0 : Nat → Prop} {g0 g : G} {w0 w : World} {nb : Nat} {a : Act} {Q : Exit → Act → World → Prop} (kL kH : List Nat) (nb' : Nat) {id : Nat} {dr : Bool} {ops : List Oper} {y : Code} (hS : Sp n S0 g0 w0 σ nb a g w) (hend : ∀ a g w, Sp n S0 g0 w0 (xS (plS n ops (exA E0 []) σ nb kL kH)) nb' a g w → y.wp Tryz.prog Q a w) (h : xP (plS n ops (exA E0 []) σ nb kL kH) = some ([], nb') := by kernel_rfl) (hle : Nat.ble nb nb' = true := by kernel_rfl) : (Code.seq (Code.region id ops.toArray dr) y).wp Tryz.prog Q a w := wp_seq (reg_y mo (exA_ok (C := []) hZ (show CsOk Tryz.prog [] from trivial)) [] kL kH nb' trivial hS (fun a g w hS => then_n (hend a g w hS)) h hle)
theorem sA {n : Nat} {σ : Sg} {S0 : Nat → Prop} {g0 g : G} {w0 w : World} {nb : Nat} {a : Act} {Q : Exit → Act → World → Prop} (C : List (Nat × Rx)) (hC : CsOk Tryz.prog C) (ps : List (Nat × Rx) → List Prop) (kL kH : List Nat) (nb' : Nat) {id : Nat} {dr : Bool} {ops : List Oper} {y : Code} (hp : AllP (ps C)) (hS : Sp n S0 g0 w0 σ nb a g w) (hend : ∀ a g w, Sp n S0 g0 w0 (xS (plS n ops (exA E0 C) σ nb kL kH)) nb' a g w → y.wp Tryz.prog Q a w) (h : xP (plS n ops (exA E0 C) σ nb kL kH) = some ((ps C), nb') := by kernel_rfl) (hle : Nat.ble nb nb' = true := by kernel_rfl) : (Code.seq (Code.region id ops.toArray dr) y).wp Tryz.prog Q a w := wp_seq (reg_y mo (exA_ok hZ hC) (ps C) kL kH nb' hp hS (fun a g w hS => then_n (hend a g w hS)) h hle)
theorem sB {n : Nat} {σ : Sg} {S0 : Nat → Prop} {g0 g : G} {w0 w : World} {nb : Nat} {a : Act} {Q : Exit → Act → World → Prop} (C2 : List (Nat × R2)) (C : List (Nat × Rx)) (hC : CsOk Tryz.prog C) (ps : List (Nat × Rx) → List Prop) (kL kH : List Nat) (nb' : Nat) {id : Nat} {dr : Bool} {ops : List Oper} {y : Code} (hp : AllP (ps C)) (hS : Sp n S0 g0 w0 σ nb a g w) (hend : ∀ a g w, Sp n S0 g0 w0 (xS (plS n ops (exA2 E0 C C2) σ nb kL kH)) nb' a g w → y.wp Tryz.prog Q a w) (h : xP (plS n ops (exA2 E0 C C2) σ nb kL kH) = some ((ps C), nb') := by kernel_rfl) (hle : Nat.ble nb nb' = true := by kernel_rfl) : (Code.seq (Code.region id ops.toArray dr) y).wp Tryz.prog Q a w := wp_seq (reg_y mo (exA2_ok hZ hC) (ps C) kL kH nb' hp hS (fun a g w hS => then_n (hend a g w hS)) h hle)
theorem sC {n : Nat} {σ : Sg} {S0 : Nat → Prop} {g0 g : G} {w0 w : World} {nb : Nat} {a : Act} {Q : Exit → Act → World → Prop} (C3 : List (Nat × CR × List Nat)) (hC3 : C3Ok Tryz.prog C3) (C2 : List (Nat × R2)) (C : List (Nat × Rx)) (hC : CsOk Tryz.prog C) (ps : List (Nat × Rx) → List Prop) (kL kH : List Nat) (nb' : Nat) {id : Nat} {dr : Bool} {ops : List Oper} {y : Code} (hp : AllP (ps C)) (hS : Sp n S0 g0 w0 σ nb a g w) (hend : ∀ a g w, Sp n S0 g0 w0 (xS (plS n ops (exA3 E0 C C2 C3) σ nb kL kH)) nb' a g w → y.wp Tryz.prog Q a w) (h : xP (plS n ops (exA3 E0 C C2 C3) σ nb kL kH) = some ((ps C), nb') := by kernel_rfl) (hle : Nat.ble nb nb' = true := by kernel_rfl) : (Code.seq (Code.region id ops.toArray dr) y).wp Tryz.prog Q a w := wp_seq (reg_y mo (exA3_ok hZ hC hC3) (ps C) kL kH nb' hp hS (fun a g w hS => then_n (hend a g w hS)) h hle)
end
end Go.Sx.Tryz
namespace Go.Mi.Ke
abbrev Ln := BitVec 64
abbrev St := Nat → Ln
def rot (a : Ln) (n : Nat) : Ln := a.rotateLeft n
def par (a : St) (x : Nat) : Ln := a (x % 5) ^^^ a (x % 5 + 5) ^^^ a (x % 5 + 10) ^^^ a (x % 5 + 15) ^^^ a (x % 5 + 20)
def dif (a : St) (x : Nat) : Ln := par a (x + 4) ^^^ rot (par a (x + 1)) 1
def theta (a : St) : St := fun i => a i ^^^ dif a i
def chi (a : St) : St := fun i => a i ^^^ (~~~ a (i - i % 5 + (i + 1) % 5) &&& a (i - i % 5 + (i + 2) % 5))
def px : Nat → Nat × Nat
 | 0 => (1, 0)
 | t + 1 => ((px t).2, (2 * (px t).1 + 3 * (px t).2) % 5)
def ps (t : Nat) : Nat := (px t).1 + 5 * (px t).2
def rhoN (a : St) : Nat → St
 | 0 => a
 | t + 1 => fun i => if i = ps (t + 1) then rot (a (ps t)) ((t + 1) * (t + 2) / 2) else rhoN a t i
def rho (a : St) : St := rhoN a 24
def iota (c : Ln) (a : St) : St := fun i => if i = 0 then a 0 ^^^ c else a i
def round (c : Ln) (a : St) : St := iota c (chi (rho (theta a)))
def enc (a : St) : Nat → Nat
 | 0 => 0
 | n + 1 => enc a n * 2 ^ 64 + (a n).toNat
end Go.Mi.Ke
namespace Go.Sx
open Go.Mi Go.RowKit
def thC (a : Nat → Int) : Nat → Nat → Int
 | 0 => fun _ => 0
 | i + 1 => upd (thC a i) (i % 5) (ixor .u64 (thC a i (i % 5)) (a i))
def rotl (x k : Int) : Int := ior .u64 (ishl .u64 x (iand .u64 (IntKind.wrap .u64 k) 63)) (ishr .u64 x (isub .u64 64 (iand .u64 (IntKind.wrap .u64 k) 63)))
def thA (a c : Nat → Int) : Nat → Nat → Int
 | 0 => a
 | i + 1 => upd (thA a c i) i (ixor .u64 (thA a c i i) (ixor .u64 (c ((i % 5 + 4) % 5)) (rotl (c ((i % 5 + 1) % 5)) 1)))
def theta (a : Nat → Int) : Nat → Int := thA a (thC a 25) 25
def rhoA (a : Nat → Int) : Nat → Nat → Int
 | 0 => a
 | t + 1 => upd (rhoA a t) ((Ke.px (t + 1)).1 + 5 * (Ke.px (t + 1)).2) (rotl (a ((Ke.px t).1 + 5 * (Ke.px t).2)) (iquo .i64 (imul .i64 ((t + 1 : Nat) : Int) ((t + 2 : Nat) : Int)) 2))
def rho (a : Nat → Int) : Nat → Int := rhoA a 24
def chiA (a : Nat → Int) : Nat → Nat → Int
 | 0 => a
 | i + 1 => upd (chiA a i) i (ixor .u64 (chiA a i i) (iand .u64 (inot .u64 (a (i - i % 5 + (i + 1) % 5))) (a (i - i % 5 + (i + 2) % 5))))
def chi (a : Nat → Int) : Nat → Int := chiA a 25
end Go.Sx
namespace Go.Sx.Tryz
open Go.Mi Go.RowKit Go.Sx Go.Proofs
end Go.Sx.Tryz
namespace Go.Sx
open Go.Mi Go.RowKit
theorem cat_step (l : List (List Int)) (j : Nat) (h : j < l.length) : (l.take (j + 1)).flatten = (l.take j).flatten ++ l.getD j (rz [.sl (.int .u8)]) := by
 rw [List.take_add_one, List.flatten_append, List.getElem?_eq_getElem h]
 simp [List.getD, List.getElem?_eq_getElem h]
 rfl
theorem cat_len (l : List (List Int)) (j : Nat) (h : j < l.length) : (l.take (j + 1)).flatten.length = (l.take j).flatten.length + (l.getD j (rz [.sl (.int .u8)])).length := by
 rw [cat_step l j h, List.length_append]
theorem flat_take_le (l : List (List Int)) (j : Nat) : (l.take j).flatten.length ≤ l.flatten.length := by
 have h : l.flatten = (l.take j).flatten ++ (l.drop j).flatten := by rw [← List.flatten_append, List.take_append_drop]
 rw [h, List.length_append]
 omega
theorem cat_le {l : List (List Int)} {j c : Nat} (h : j < l.length) (hc : l.flatten.length ≤ c) : (l.take j).flatten.length + (l.getD j (rz [.sl (.int .u8)])).length ≤ c := by
 rw [← cat_len l j h]
 exact Nat.le_trans (flat_take_le l _) hc
end Go.Sx
namespace Go.Sx.Tryz
open Go.Mi Go.RowKit Go.Sx Go.Proofs
noncomputable def c_grow (n : Nat) : Con := ⟨[.v (.slice none 0 0), .v (.int .i64 ((n : Nat) : Int))], [], .sk 0, [(0, .sl 5 [.int .u8] [])]⟩
set_option maxRecDepth 100000 in
set_option maxHeartbeats 1000000 in
theorem grow_ok (n : Nat) (h : n ≤ 140737488355328) : ConOk Tryz.prog 187 (c_grow n) := by
 refine conOk_of rfl (nb := 0) Tryz.func187 rfl rfl Tryz.ntmps187 rfl rfl rfl fun g0 w0 ac gs ws hg0 hS => ?_
 have hS := hS.sp
 refine s0 [0, 1, 4] [] 0 hS fun ac gs ws hS => ?_
 refine wp_seq (sA [(1, .ob false)] trivial (fun _ => [(decide (((n : Nat) : Int) < 0)) = false]) [0, 1, 4, 6] [] 0 ⟨decide_eq_false (by omega), trivial⟩ hS fun ac gs ws hS => ?_)
 refine cond_f hS ?_
 refine wp_skip (then_n (wp_seq (sA [(6, .oi ((n : Nat) : Int))] trivial (fun _ => [isub .i64 ((n : Nat) : Int) 0 = ((n : Nat) : Int)]) [0, 1, 4] [] 0 ⟨by rw [isub64 (by omega) (by omega)]; omega, trivial⟩ hS fun ac gs ws hS => ?_)))
 refine s0 [0, 1, 4, 16] [] 0 hS fun ac gs ws hS => ?_
 refine if_d ((0 : Int) < ((n : Nat) : Int)) hS (fun h1 => ?_) (fun h1 => ?_)
 ·refine rA [] trivial (fun _ => [bndP none (some 0) none 0 0, (0 : Int) ≤ ((n : Nat) : Int), ([] : List (RT [.int .u8])).length + n ≤ 9223372036854775807, (([] : List (RT [.int .u8])).length + n) * 1 ≤ 140737488355328, (0 : Int) ≤ 0 ∧ (0 : Int) ≤ ([] ++ List.replicate n (0 : Int)).length]) [0, 4] [1] 2 ⟨⟨by simp only [nnI] <;> omega, by simp only [nnI] <;> omega, by simp only [nnI] <;> omega, by simp, by simp only [bl] <;> omega, by simp only [bl] <;> omega, by simp only [bl] <;> omega⟩, by omega, by simp <;> omega, by simp <;> omega, by simp, trivial⟩ hS fun ac gs ws hS => ?_
  refine then_n (s0 [4] [1] 2 hS fun ac gs ws hS => ?_)
  refine wp_ret ?_
  obtain ⟨gs, hS⟩ := hS.rn [(0, 1)] [(4, .sk 0)] [(0, .sl 5 [.int .u8] (([] ++ List.replicate n (0 : Int)).take 0))] 1 hg0
  exact fin_y rfl (.inr rfl) hS [.sk 0] [(0, some (.sl 5 [.int .u8] (([] ++ List.replicate n (0 : Int)).take 0)))] rfl ⟨rfl, trivial⟩
 ·refine wp_skip (then_n (s0 [4] [] 0 hS fun ac gs ws hS => ?_))
  refine wp_ret ?_
  obtain ⟨gs, hS⟩ := hS.nilk 4 5 [.int .u8]
  exact fin_y rfl (.inr rfl) hS [.sk 0] [(0, some (.sl 5 [.int .u8] []))] rfl ⟨rfl, trivial⟩

noncomputable def c_concat (l : List (List Int)) : Con := ⟨[.ls false [.sl (.int .u8)] l], [], .sk 0, [(0, .sl 5 [.int .u8] l.flatten)]⟩
set_option maxRecDepth 100000 in
set_option maxHeartbeats 1000000 in
theorem concat_ok (l : List (List Int)) (h : l.flatten.length ≤ 140737488355328) : ConOk Tryz.prog 161 (c_concat l) := by
 refine conOk_of rfl (nb := 0) Tryz.func161 rfl rfl Tryz.ntmps161 rfl rfl rfl fun g0 w0 ac gs ws hg0 hS => ?_
 have hlen0 : l.length ≤ 9223372036854775807 := hS.len 0 rfl
 have hS := hS.sp
 refine s0 [0, 2] [] 0 hS fun ac gs ws hS => ?_
 refine s0 [0, 2, 3] [] 0 hS fun ac gs ws hS => ?_
 refine wp_seq (s0 [0, 2, 3, 9, 10, 11] [] 0 hS fun ac gs ws hS => ?_)
 refine wp_block (loop_y (ι := Nat × Nat) hg0 hS (fun z_ => match z_ with | (i, c) => l.length - i) (fun z_ => match z_ with | (i, c) => [(0, .ls false [.sl (.int .u8)] l), (2, .v (.slice none 0 0)), (3, .v (.int .i64 ((c : Nat) : Int))), (9, .ls false [.sl (.int .u8)] l), (10, .v (.int .i64 ((l.length : Nat) : Int))), (11, .v (.int .i64 ((i : Nat) : Int)))]) (fun z_ => match z_ with | (i, c) => []) (fun z_ => match z_ with | (i, c) => (i ≤ l.length) ∧ (c = (l.take i).flatten.length) ∧ True) 0 (0, 0) [] ⟨(by omega), rfl, trivial⟩ ?_)
 rintro ⟨i, c⟩ ac gs ws ⟨hi, hc, _⟩ hS
 refine s0 [0, 2, 3, 9, 10, 11, 12] [] 0 hS fun ac gs ws hS => ?_
 refine wp_seq ?_
 refine if_d (((i : Nat) : Int) < ((l.length : Nat) : Int)) hS (fun h1 => ?_) (fun h1 => ?_)
 ·refine wp_skip (then_n (wp_seq (wp_block (sA [] trivial (fun _ => [(0 : Int) ≤ ((i : Nat) : Int) ∧ ((i : Nat) : Int) < ((l.length : Nat) : Int)]) [0, 2, 3, 5, 9, 10, 11] [] 0 ⟨by omega, trivial⟩ hS fun ac gs ws hS => ?_))))
  refine wp_seq ?_
  have hb := cat_le (l := l) (j := i) (by omega) h
  rw [← hc] at hb
  refine rA [(3, .oi ((c + ((l.getD i (rz [.sl (.int .u8)])).length) : Nat) : Int))] trivial (fun _ => [iadd .i64 ((c : Nat) : Int) (((l.getD i (rz [.sl (.int .u8)])).length : Nat) : Int) = ((c + ((l.getD i (rz [.sl (.int .u8)])).length) : Nat) : Int)]) [0, 2, 3, 9, 10, 11] [] 0 ⟨by rw [iadd64 (by omega) (by omega)]; omega, trivial⟩ hS fun ac gs ws hS => ?_
  refine then_n (sA [(1, .ob false)] trivial (fun _ => [(decide (((c + ((l.getD i (rz [.sl (.int .u8)])).length) : Nat) : Int) < 0)) = false]) [0, 2, 3, 9, 10, 11, 20] [] 0 ⟨decide_eq_false (by omega), trivial⟩ hS fun ac gs ws hS => ?_)
  refine cond_f hS ?_
  refine wp_skip (block_n (then_n (rA [(0, .oi ((i + 1 : Nat) : Int))] trivial (fun _ => [iadd .i64 ((i : Nat) : Int) 1 = ((i + 1 : Nat) : Int)]) [0, 2, 3, 9, 10, 11] [] 0 ⟨by rw [iadd64 (by omega) (by omega)]; omega, trivial⟩ hS fun ac gs ws hS => ?_)))
  refine then_n ?_
  exact next_y hg0 hS (s := (i, c)) (i + 1, c + ((l.getD i (rz [.sl (.int .u8)])).length)) [] (show l.length - (i + 1) < l.length - i from by omega) ⟨(by omega), (by rw [cat_len l i (by omega), ← hc]), trivial⟩
 ·have hScur := hS
  obtain rfl : l.length = i := by omega
  obtain rfl : l.flatten.length = c := Eq.symm (by rw [hc, List.take_length])
  have hS := hScur
  clear hScur
  refine wp_exit (then_exit (then_exit (block_exit (then_n (sA [(1, .call ⟨187, (c_grow l.flatten.length), [], [(0, 0)]⟩)] ⟨grow_ok l.flatten.length (by omega), trivial⟩ (fun C => [ndC C 1]) [0, 2, 6] [0] 1 ⟨rfl, trivial⟩ hS fun ac gs ws hS => ?_)))))
  refine wp_seq (s0 [2, 6, 25, 26, 27] [0] 1 hS fun ac gs ws hS => ?_)
  refine wp_block (loop_y (ι := Nat × (List Int)) hg0 hS (fun z_ => match z_ with | (j, o) => l.length - j) (fun z_ => match z_ with | (j, o) => [(2, .v (.slice none 0 0)), (6, .sk 0), (25, .ls false [.sl (.int .u8)] l), (26, .v (.int .i64 ((l.length : Nat) : Int))), (27, .v (.int .i64 ((j : Nat) : Int)))]) (fun z_ => match z_ with | (j, o) => [(0, .sl 5 [.int .u8] o)]) (fun z_ => match z_ with | (j, o) => (j ≤ l.length) ∧ (o = (l.take j).flatten) ∧ True) 1 (0, []) [(0, 0)] ⟨(by omega), rfl, trivial⟩ ?_)
  rintro ⟨j, o⟩ ac gs ws ⟨hj, ho, _⟩ hS
  refine s0 [2, 6, 25, 26, 27, 28] [0] 1 hS fun ac gs ws hS => ?_
  refine wp_seq ?_
  refine if_d (((j : Nat) : Int) < ((l.length : Nat) : Int)) hS (fun h2 => ?_) (fun h2 => ?_)
  ·refine wp_skip (then_n (wp_seq (wp_block (sA [] trivial (fun _ => [(0 : Int) ≤ ((j : Nat) : Int) ∧ ((j : Nat) : Int) < ((l.length : Nat) : Int)]) [2, 6, 8, 25, 26, 27] [0] 1 ⟨by omega, trivial⟩ hS fun ac gs ws hS => ?_))))
   have hb := cat_le (l := l) (j := j) (by omega) h
   rw [← ho] at hb
   refine rA [] trivial (fun _ => [o.length + (l.getD j (rz [.sl (.int .u8)])).length ≤ 9223372036854775807, (o.length + (l.getD j (rz [.sl (.int .u8)])).length) * 1 ≤ 140737488355328]) [2, 6, 25, 26, 27] [1] 2 ⟨by omega, by omega, trivial⟩ hS fun ac gs ws hS => ?_
   refine block_n (then_n (rA [(0, .oi ((j + 1 : Nat) : Int))] trivial (fun _ => [iadd .i64 ((j : Nat) : Int) 1 = ((j + 1 : Nat) : Int)]) [2, 6, 25, 26, 27] [1] 2 ⟨by rw [iadd64 (by omega) (by omega)]; omega, trivial⟩ hS fun ac gs ws hS => ?_))
   refine then_n ?_
   exact next_y hg0 hS (s := (j, o)) (j + 1, o ++ (l.getD j (rz [.sl (.int .u8)]))) [(0, 1)] (show l.length - (j + 1) < l.length - j from by omega) ⟨(by omega), (by rw [cat_step l j (by omega), ← ho]), trivial⟩
  ·have hScur := hS
   obtain rfl : l.length = j := by omega
   obtain rfl : l.flatten = o := Eq.symm (by rw [ho, List.take_length])
   have hS := hScur
   clear hScur
   refine wp_exit (then_exit (then_exit (block_exit (then_n (s0 [2] [0] 1 hS fun ac gs ws hS => ?_)))))
   refine wp_ret ?_
   exact fin_y rfl (.inr rfl) hS [.sk 0] [(0, some (.sl 5 [.int .u8] l.flatten))] rfl ⟨rfl, trivial⟩

noncomputable def c_cat (l : List (List Int)) : Con := ⟨[.ls false [.sl (.int .u8)] l], [], .sk 0, [(0, .sl 5 [.int .u8] l.flatten)]⟩
set_option maxRecDepth 100000 in
set_option maxHeartbeats 1000000 in
theorem cat_ok (l : List (List Int)) (h : l.flatten.length ≤ 140737488355328) : ConOk Tryz.prog 154 (c_cat l) := by
 refine conOk_of rfl (nb := 0) Tryz.func154 rfl rfl Tryz.ntmps154 rfl rfl rfl fun g0 w0 ac gs ws hg0 hS => ?_
 have hlen0 : l.length ≤ 9223372036854775807 := hS.len 0 rfl
 have hS := hS.sp
 refine s0 [0, 2] [] 0 hS fun ac gs ws hS => ?_
 refine sA [(1, .call ⟨161, (c_concat l), [], [(0, 0)]⟩)] ⟨concat_ok l (by first | omega | (simp only [List.flatten_cons, List.flatten_nil, List.length_append, List.length_cons, List.length_nil, List.length_take, List.length_drop, List.length_replicate] <;> omega) | (simp <;> omega)), trivial⟩ (fun C => [ndC C 1]) [2] [0] 1 ⟨rfl, trivial⟩ hS fun ac gs ws hS => ?_
 refine wp_ret ?_
 exact fin_y rfl (.inr rfl) hS [.sk 0] [(0, some (.sl 5 [.int .u8] l.flatten))] rfl ⟨rfl, trivial⟩

end Go.Sx.Tryz
namespace Go.Sx.Tryz
open Go.Mi Go.RowKit Go.Sx Go.Proofs
end Go.Sx.Tryz
namespace Go.Sx.Tryz
open Go.Mi Go.RowKit Go.Sx Go.Proofs
end Go.Sx.Tryz
namespace Go.Sx.Tryz
open Go.Mi Go.RowKit Go.Sx Go.Proofs
end Go.Sx.Tryz
namespace Go.Sx.Tryz
open Go.Mi Go.RowKit Go.Sx Go.Proofs
end Go.Sx.Tryz
namespace Go.Sx
open Go.Mi Go.RowKit
theorem wrap64 (x : Int) : IntKind.wrap .u64 x = x % 18446744073709551616 := by
 simp [IntKind.wrap, IntKind.bits, IntKind.signed]
theorem wrap64_rg (x : Int) : 0 ≤ IntKind.wrap .u64 x ∧ IntKind.wrap .u64 x < 18446744073709551616 := by rw [wrap64]; omega
theorem ior_rg (p q : Int) : 0 ≤ ior .u64 p q ∧ ior .u64 p q < 18446744073709551616 := wrap64_rg _
end Go.Sx
namespace Go.Sx
open Go.Mi Go.RowKit
def Bt (f : Nat → Int) (i : Nat) : Int := IntKind.wrap .u8 (ishr .u64 (f (i / 8)) ((8 * (i % 8) : Nat) : Int))
def bts (f : Nat → Int) (a n : Nat) : List Int := (List.range n).map fun i => Bt f (a + i)
def blk (f : Nat → Int) : List Int := bts f 0 168
def acc1 (x : Int) (s : (Nat → Int) × Nat) : (Nat → Int) × Nat := if x < 3329 then (if s.2 < 256 then (upd s.1 s.2 x, s.2 + 1) else s) else s
def ux1 (a b : Int) : Int := ior .u16 (IntKind.wrap .u16 a) (ishl .u16 (IntKind.wrap .u16 (iand .u8 b 15)) 8)
def ux2 (b c : Int) : Int := ior .u16 (IntKind.wrap .u16 (ishr .u8 b 4)) (ishl .u16 (IntKind.wrap .u16 c) 4)
def acc : List Int → (Nat → Int) × Nat → (Nat → Int) × Nat
 | a :: b :: c :: r, s => acc r (acc1 (ux2 b c) (acc1 (ux1 a b) s))
 | _, s => s
end Go.Sx
namespace Go.Sx.Tryz
open Go.Mi Go.RowKit Go.Sx Go.Proofs
end Go.Sx.Tryz
namespace Go.Sx.Tryz
open Go.Mi Go.RowKit Go.Sx Go.Proofs
end Go.Sx.Tryz
namespace Go.Sx.Tryz
open Go.Mi Go.RowKit Go.Sx Go.Proofs
theorem eq_no1 {xs ys : List Int} (h : ¬ ((xs.length : Nat) : Int) = ((ys.length : Nat) : Int)) : decide (xs = ys) = false := decide_eq_false fun e => h (by rw [e])
theorem eq_no2 {xs ys : List Int} {i : Nat} (h : ¬ xs.getD i 0 = ys.getD i 0) : decide (xs = ys) = false := decide_eq_false fun e => h (by rw [e])
theorem eq_yes {xs ys : List Int} (hl : ((xs.length : Nat) : Int) = ((ys.length : Nat) : Int)) (h : ∀ j, j < xs.length → xs.getD j 0 = ys.getD j 0) : decide (xs = ys) = true := decide_eq_true (by
 refine List.ext_getElem (by omega) fun i h1 h2 => ?_
 have := h i h1
 rwa [List.getD_eq_getElem?_getD, List.getD_eq_getElem?_getD, List.getElem?_eq_getElem h1, List.getElem?_eq_getElem h2] at this)
noncomputable def c_sequal (xs ys : List Int) : Con := ⟨[.ls false [.int .u8] xs, .ls false [.int .u8] ys], [], .v (.bool (decide (xs = ys))), []⟩
set_option maxRecDepth 100000 in
set_option maxHeartbeats 1000000 in
theorem sequal_ok (xs ys : List Int) : ConOk Tryz.prog 67 (c_sequal xs ys) := by
 refine conOk_of rfl (nb := 0) Tryz.func67 rfl rfl Tryz.ntmps67 rfl rfl rfl fun g0 w0 ac gs ws hg0 hS => ?_
 have hlen0 : xs.length ≤ 9223372036854775807 := hS.len 0 rfl
 have hlen1 : ys.length ≤ 9223372036854775807 := hS.len 1 rfl
 have hS := hS.sp
 refine s0 [0, 1, 4] [] 0 hS fun ac gs ws hS => ?_
 refine wp_seq (s0 [0, 1, 4, 10] [] 0 hS fun ac gs ws hS => ?_)
 refine if_n (((xs.length : Nat) : Int) = ((ys.length : Nat) : Int)) hS (fun h1 => ?_) (fun h1 => ?_)
 ·refine s0 [0, 1, 4] [] 0 hS fun ac gs ws hS => ?_
  refine wp_ret (then_ret ?_)
  exact fin_y rfl (.inr rfl) hS [.v (.bool false)] [] (by show weak _ (.v (.bool (decide (xs = ys)))) = .v (.bool (decide (xs = ys))); rw [eq_no1 h1]; rfl) trivial
 ·refine wp_skip (then_n (wp_seq (s0 [0, 1, 4, 12, 13] [] 0 hS fun ac gs ws hS => ?_)))
  refine wp_block (loop_y (ι := Nat) hg0 hS (fun i => xs.length - i) (fun i => [(0, .ls false [.int .u8] xs), (1, .ls false [.int .u8] ys), (12, .v (.int .i64 ((xs.length : Nat) : Int))), (13, .v (.int .i64 ((i : Nat) : Int)))]) (fun i => []) (fun i => (i ≤ xs.length) ∧ (∀ j, j < i → xs.getD j 0 = ys.getD j 0) ∧ True) 0 0 [] ⟨(by omega), (fun j h => absurd h (Nat.not_lt_zero j)), trivial⟩ ?_)
  rintro i ac gs ws ⟨hi, pm, _⟩ hS
  refine s0 [0, 1, 12, 13, 14] [] 0 hS fun ac gs ws hS => ?_
  refine wp_seq ?_
  refine if_d (((i : Nat) : Int) < ((xs.length : Nat) : Int)) hS (fun h2 => ?_) (fun h2 => ?_)
  ·refine wp_skip (then_n (wp_seq (wp_block (s0 [0, 1, 5, 12, 13] [] 0 hS fun ac gs ws hS => ?_))))
   refine sA [] trivial (fun _ => [(0 : Int) ≤ ((i : Nat) : Int) ∧ ((i : Nat) : Int) < ((xs.length : Nat) : Int), (0 : Int) ≤ ((i : Nat) : Int) ∧ ((i : Nat) : Int) < ((ys.length : Nat) : Int)]) [0, 1, 12, 13, 24] [] 0 ⟨by omega, by omega, trivial⟩ hS fun ac gs ws hS => ?_
   refine if_n ((xs.getD i 0) = (ys.getD i 0)) hS (fun h3 => ?_) (fun h3 => ?_)
   ·refine s0 [0, 1, 4, 12, 13] [] 0 hS fun ac gs ws hS => ?_
    refine wp_ret (block_ret (then_ret (then_ret (block_ret (then_ret ?_)))))
    exact fin_y rfl (.inr rfl) hS [.v (.bool false)] [] (by show weak _ (.v (.bool (decide (xs = ys)))) = .v (.bool (decide (xs = ys))); rw [eq_no2 h3]; rfl) trivial
   ·refine wp_skip (block_n (then_n (rA [(0, .oi ((i + 1 : Nat) : Int))] trivial (fun _ => [iadd .i64 ((i : Nat) : Int) 1 = ((i + 1 : Nat) : Int)]) [0, 1, 12, 13] [] 0 ⟨by rw [iadd64 (by omega) (by omega)]; omega, trivial⟩ hS fun ac gs ws hS => ?_)))
    refine then_n ?_
    exact next_y hg0 hS (s := (i)) (i + 1) [] (show xs.length - (i + 1) < xs.length - i from by omega) ⟨(by omega), (lst_next pm (by assumption)), trivial⟩
  ·have hScur := hS
   obtain rfl : xs.length = i := by omega
   have hS := hScur
   clear hScur
   refine wp_exit (then_exit (then_exit (block_exit (then_n (s0 [4] [] 0 hS fun ac gs ws hS => ?_)))))
   refine wp_ret ?_
   exact fin_y rfl (.inr rfl) hS [.v (.bool true)] [] (by show weak _ (.v (.bool (decide (xs = ys)))) = .v (.bool (decide (xs = ys))); rw [eq_yes h1 pm]; rfl) trivial

noncomputable def c_equal (xs ys : List Int) : Con := ⟨[.ls false [.int .u8] xs, .ls false [.int .u8] ys], [], .v (.bool (decide (xs = ys))), []⟩
set_option maxRecDepth 100000 in
set_option maxHeartbeats 1000000 in
theorem equal_ok (xs ys : List Int) : ConOk Tryz.prog 37 (c_equal xs ys) := by
 refine conOk_of rfl (nb := 0) Tryz.func37 rfl rfl Tryz.ntmps37 rfl rfl rfl fun g0 w0 ac gs ws hg0 hS => ?_
 have hlen0 : xs.length ≤ 9223372036854775807 := hS.len 0 rfl
 have hlen1 : ys.length ≤ 9223372036854775807 := hS.len 1 rfl
 have hS := hS.sp
 refine s0 [0, 1, 4] [] 0 hS fun ac gs ws hS => ?_
 refine sA [(2, .call ⟨67, (c_sequal xs ys), [], []⟩)] ⟨sequal_ok xs ys, trivial⟩ (fun C => [ndC C 2]) [4] [] 0 ⟨rfl, trivial⟩ hS fun ac gs ws hS => ?_
 refine wp_ret ?_
 exact fin_y rfl (.inr rfl) hS [.v (.bool (decide (xs = ys)))] [] rfl trivial

end Go.Sx.Tryz
namespace Go.Sx.Tryz
open Go.Mi Go.RowKit Go.Sx Go.Proofs
end Go.Sx.Tryz
namespace Go.Sx
open Go.Mi Go.RowKit
theorem wrap_u16m (x : Int) : IntKind.wrap .u16 x = x % 65536 := by
 simp [IntKind.wrap, IntKind.bits, IntKind.signed]
theorem ofI8 {a : Int} (ha : 0 ≤ a ∧ a < 256) : (BitVec.ofInt 8 a).toNat = a.toNat := by rw [BitVec.toNat_ofInt]; omega
theorem fdiv_nat {a : Int} (ha : 0 ≤ a) (n : Nat) : a.fdiv (2 ^ n) = ((a.toNat >>> n : Nat) : Int) := by
 obtain ⟨m, rfl⟩ := Int.eq_ofNat_of_zero_le ha
 rw [Int.fdiv_eq_ediv_of_nonneg _ (Int.pow_nonneg (by decide)), show (2 : Int) ^ n = ((2 ^ n : Nat) : Int) by simp, Nat.shiftRight_eq_div_pow]
 rfl
theorem shr8 {a : Int} (ha : 0 ≤ a) {n : Nat} (hn : n ≤ 8) : ishr .u8 a ((n : Nat) : Int) = ((a.toNat >>> n : Nat) : Int) := by
 unfold ishr
 rw [show min ((n : Nat) : Int).toNat (IntKind.bits .u8) = n by simp [IntKind.bits]; omega, fdiv_nat ha]
def By (o : List Int) : Prop := ∀ x ∈ o, 0 ≤ x ∧ x < 256
theorem By.at {o : List Int} (h : By o) (i : Nat) : 0 ≤ o.getD i 0 ∧ o.getD i 0 < 256 := by
 rw [List.getD_eq_getElem?_getD]
 cases e : o[i]? with
 | none => simp
 | some x => exact h x (List.mem_of_getElem? e)
end Go.Sx
namespace Go.Sx.Tryz
open Go.Mi Go.RowKit Go.Sx Go.Proofs
end Go.Sx.Tryz
namespace Go.Sx.Tryz
open Go.Mi Go.RowKit Go.Sx Go.Proofs
noncomputable def c_clone (xs : List Int) : Con := ⟨[.ls false [.int .u8] xs], [], .ls false [.int .u8] xs, []⟩
set_option maxRecDepth 100000 in
set_option maxHeartbeats 1000000 in
theorem clone_ok (xs : List Int) (h : xs.length ≤ 100000000000000) : ConOk Tryz.prog 81 (c_clone xs) := by
 refine conOk_of rfl (nb := 0) Tryz.func81 rfl rfl Tryz.ntmps81 rfl rfl rfl fun g0 w0 ac gs ws hg0 hS => ?_
 have hlen0 : xs.length ≤ 9223372036854775807 := hS.len 0 rfl
 have hS := hS.sp
 refine s0 [0, 2] [] 0 hS fun ac gs ws hS => ?_
 refine wp_seq (wp_seq ?_)
 rcases hS.nilor 0 [.int .u8] xs with ⟨hn1, hS⟩ | hS
 ·subst hn1
  refine r0 [0, 2, 4] [] 0 hS fun ac gs ws hS => ?_
  refine then_n (cond_t hS ?_)
  refine s0 [0, 2] [] 0 hS fun ac gs ws hS => ?_
  refine wp_ret (then_ret ?_)
  exact fin_y rfl (.inr rfl) hS [.v (.slice none 0 0)] [] rfl trivial
 ·refine r0 [0, 2, 4] [] 0 hS fun ac gs ws hS => ?_
  refine then_n (cond_f hS ?_)
  refine wp_skip (then_n (sA [(0, .own)] trivial (fun _ => [([] : List (RT [.int .u8])).length + xs.length ≤ 9223372036854775807, (([] : List (RT [.int .u8])).length + xs.length) * 1 ≤ 140737488355328]) [2] [1] 2 ⟨by simp <;> omega, by simp <;> omega, trivial⟩ hS fun ac gs ws hS => ?_))
  refine wp_ret ?_
  obtain ⟨gs, hS⟩ := hS.fz 1
  exact fin_y rfl (.inr rfl) hS [.ls false [.int .u8] ([] ++ xs)] [] rfl trivial

noncomputable def rfixed_kv (xs : List Int) (n : Nat) : Bool := if ((xs.length : Nat) : Int) < ((n : Nat) : Int) then false else true
noncomputable def rfixed_k (xs : List Int) (n : Nat) : Bool := shut (rfixed_kv xs n)
theorem rfixed_ke (xs : List Int) (n : Nat) : rfixed_k xs n = rfixed_kv xs n := shut_eq _
noncomputable def c_rfixed (xs : List Int) (n : Nat) : Con := ⟨[.cp 0 0, .v (.int .i64 ((n : Nat) : Int))], [(0, .ob 188 (chain [.ls false [.int .u8] xs]))], .ls false [.int .u8] (xs.take n), [(0, .ob 188 (chain [.ls false [.int .u8] (xs.drop n)]))]⟩
set_option maxRecDepth 100000 in
set_option maxHeartbeats 1000000 in
theorem rfixed_ok (xs : List Int) (n : Nat) (h : xs.length ≤ 100000000000000) (hk : rfixed_k xs n = true) : ConOk Tryz.prog 91 (c_rfixed xs n) := by
 refine conOk_of rfl (nb := 1) Tryz.func91 rfl rfl Tryz.ntmps91 rfl rfl rfl fun g0 w0 ac gs ws hg0 hS => ?_
 have hS := hS.sp
 refine s0 [0, 1, 4] [0] 1 hS fun ac gs ws hS => ?_
 refine wp_seq (sA [(1, .ob false)] trivial (fun _ => [(decide (((n : Nat) : Int) < 0)) = false]) [0, 1, 4, 28] [0] 1 ⟨decide_eq_false (by omega), trivial⟩ hS fun ac gs ws hS => ?_)
 refine if_d (((xs.length : Nat) : Int) < ((n : Nat) : Int)) hS (fun h1 => ?_) (fun h1 => ?_)
 ·have hK : rfixed_k xs n = false := (rfixed_ke xs n).trans (if_pos h1)
  rw [hK] at hk
  cases hk
 ·refine wp_skip (then_n (wp_seq (s0 [0, 1, 4, 31] [0] 1 hS fun ac gs ws hS => ?_)))
  refine cond_f hS ?_
  refine wp_skip (then_n (sA [(6, .call ⟨81, (c_clone (xs.take n)), [], []⟩)] ⟨clone_ok (xs.take n) (by first | omega | (simp only [List.length_append, List.length_drop, List.length_take, List.length_replicate, List.length_cons, List.length_nil, List.length_map, List.length_range] <;> omega) | (simp <;> omega)), trivial⟩ (fun C => [bndP none (some ((n : Nat) : Int)) none xs.length xs.length, ndC C 6]) [0, 1, 4, 5] [0] 1 ⟨⟨by simp only [nnI] <;> omega, by simp only [nnI] <;> omega, by simp only [nnI] <;> omega, by simp, by simp only [bl] <;> omega, by simp only [bl] <;> omega, by simp only [bl] <;> omega⟩, rfl, trivial⟩ hS fun ac gs ws hS => ?_))
  refine sA [] trivial (fun _ => [bndP (some ((n : Nat) : Int)) none none xs.length xs.length]) [4, 5] [0] 1 ⟨⟨by simp only [nnI] <;> omega, by simp only [nnI] <;> omega, by simp only [nnI] <;> omega, by simp, by simp only [bl] <;> omega, by simp only [bl] <;> omega, by simp only [bl] <;> omega⟩, trivial⟩ hS fun ac gs ws hS => ?_
  refine s0 [4] [0] 1 hS fun ac gs ws hS => ?_
  refine wp_ret ?_
  exact fin_y rfl (.inr rfl) hS [.ls false [.int .u8] (xs.take n)] [(0, some (.ob 188 (chain [.ls false [.int .u8] (xs.drop n)])))] rfl ⟨rfl, trivial⟩
theorem rfixed_y {xs : List Int} {n : Nat} (h : rfixed_k xs n = true) : n ≤ xs.length := by
 rw [rfixed_ke] at h
 unfold rfixed_kv at h
 by_cases h2 : ((xs.length : Nat) : Int) < ((n : Nat) : Int)
 ·simp only [h2, if_true] at h
  cases h
 ·omega
theorem rfixed_n {xs : List Int} {n : Nat} (h : ¬ rfixed_k xs n = true) : xs.length < n := by
 rw [rfixed_ke] at h
 unfold rfixed_kv at h
 by_cases h2 : ((xs.length : Nat) : Int) < ((n : Nat) : Int)
 ·omega
 ·exact absurd (by first | (rw [if_neg (by omega), if_neg h2]) | rw [if_neg h2]) h
end Go.Sx.Tryz
namespace Go.Sx.Tryz
open Go.Mi Go.RowKit Go.Sx Go.Proofs
def numA : Nat → Nat → Int → List Int → Option (Int × List Int)
 | 0, _, _, _ => none
 | _ + 1, _, _, [] => none
 | k + 1, n, v, c :: r => if (128 : Int) ≤ c then numA k (n + 1) (ior .u64 v (ishl .u64 (IntKind.wrap .u64 (iandn .u8 c 128)) ((7 * n : Nat) : Int))) r
  else if n = 9 ∧ (1 : Int) < c then none else if 0 < n ∧ c = 0 then none else some (ior .u64 v (ishl .u64 (IntKind.wrap .u64 (iandn .u8 c 128)) ((7 * n : Nat) : Int)), r)
def numM (xs : List Int) : Option (Int × List Int) := numA 10 0 0 xs
def numB (xs : List Int) : Bool := (numM xs).isSome
def numV (xs : List Int) : Int × List Int := (numM xs).getD (0, [])
theorem numA_nil (k n : Nat) (v : Int) {xs : List Int} (h : xs.length < 1) : numA k n v xs = none := by
 have : xs = [] := List.eq_nil_of_length_eq_zero (by omega)
 subst this
 cases k <;> rfl
theorem numA_s {i : Nat} (hi : i < 10) (v : Int) {xs : List Int} (h : 1 ≤ xs.length) : numA (10 - i) i v xs = (if (128 : Int) ≤ (xs.take 1).getD 0 0 then numA (10 - (i + 1)) (i + 1) (ior .u64 v (ishl .u64 (IntKind.wrap .u64 (iandn .u8 ((xs.take 1).getD 0 0) 128)) ((7 * i : Nat) : Int))) (xs.drop 1)
  else if i = 9 ∧ (1 : Int) < (xs.take 1).getD 0 0 then none else if 0 < i ∧ (xs.take 1).getD 0 0 = 0 then none else some (ior .u64 v (ishl .u64 (IntKind.wrap .u64 (iandn .u8 ((xs.take 1).getD 0 0) 128)) ((7 * i : Nat) : Int)), xs.drop 1)) := by
 obtain ⟨k, hk⟩ : ∃ k, 10 - i = k + 1 := ⟨9 - i, by omega⟩
 rw [hk, show 10 - (i + 1) = k by omega]
 match xs, h with
 | c :: r, _ => rfl
theorem num_no {xs : List Int} (h : numM xs = none) : numB xs = false := by unfold numB; rw [h]; rfl
theorem num_is {xs : List Int} {z : Int × List Int} (h : numM xs = some z) : numB xs = true := by unfold numB; rw [h]; rfl
theorem num_v {xs : List Int} {z : Int × List Int} (h : numM xs = some z) : numV xs = z := by unfold numV; rw [h]; rfl
noncomputable def c_num (xs : List Int) : Con := ⟨[.cp 0 0], [(0, .ob 188 (chain [.ls false [.int .u8] xs]))], .v (.int .u64 ((numV xs).1)), [(0, .ob 188 (chain [.ls false [.int .u8] ((numV xs).2)]))]⟩
set_option maxRecDepth 100000 in
set_option maxHeartbeats 1000000 in
theorem num_ok (xs : List Int) (h : xs.length ≤ 100000000000000) (hk : numB xs = true) : ConOk Tryz.prog 126 (c_num xs) := by
 refine conOk_of rfl (nb := 1) Tryz.func126 rfl rfl Tryz.ntmps126 rfl rfl rfl fun g0 w0 ac gs ws hg0 hS => ?_
 have hS := hS.sp
 refine s0 [0, 2] [0] 1 hS fun ac gs ws hS => ?_
 refine wp_seq (s0 [0, 2, 5] [0] 1 hS fun ac gs ws hS => ?_)
 refine wp_block (loop_y (ι := Nat × Int × (List Int)) hg0 hS (fun z_ => match z_ with | (i, v, ys) => 10 - i) (fun z_ => match z_ with | (i, v, ys) => [(0, .cp 0 0), (2, .v (.int .u64 v)), (5, .v (.int .i64 ((i : Nat) : Int)))]) (fun z_ => match z_ with | (i, v, ys) => [(0, .ob 188 (chain [.ls false [.int .u8] ys]))]) (fun z_ => match z_ with | (i, v, ys) => (i ≤ 10) ∧ (ys.length ≤ 100000000000000) ∧ (numA (10 - i) i v ys = numM xs) ∧ True) 1 (0, 0, xs) [(0, 0)] ⟨(by omega), h, rfl, trivial⟩ ?_)
 rintro ⟨i, v, ys⟩ ac gs ws ⟨hi, hly, hq, _⟩ hS
 refine s0 [0, 2, 5, 6] [0] 1 hS fun ac gs ws hS => ?_
 refine wp_seq ?_
 refine if_d (((i : Nat) : Int) < 10) hS (fun h1 => ?_) (fun h1 => ?_)
 ·refine wp_skip (then_n (wp_seq (wp_block (s0 [0, 2, 3, 5] [0] 1 hS fun ac gs ws hS => ?_))))
  refine wp_seq ?_
  skip
  skip
  by_cases h2 : rfixed_k ys 1 = true
  ·have hl1 := rfixed_y h2
   have hl2 : (ys.take 1).length = 1 := by rw [List.length_take]; omega
   refine rA [(1, .call ⟨91, (c_rfixed ys 1), [(0, 0)], []⟩)] ⟨rfixed_ok ys 1 (by first | omega | (simp only [List.length_append, List.length_drop, List.length_take, List.length_replicate, List.length_cons, List.length_nil, List.length_map, List.length_range] <;> omega) | (simp <;> omega)) h2, trivial⟩ (fun C => [ndC C 1, (0 : Int) ≤ 0 ∧ 0 < (((ys.take 1).length : Nat) : Int)]) [0, 2, 3, 4, 5] [0] 1 ⟨rfl, by omega, trivial⟩ hS fun ac gs ws hS => ?_
   refine then_n (sA [(5, .oi ((7 * i : Nat) : Int))] trivial (fun _ => [imul .i64 7 ((i : Nat) : Int) = ((7 * i : Nat) : Int), (0 : Int) ≤ ((7 * i : Nat) : Int)]) [0, 2, 3, 4, 5] [0] 1 ⟨by rw [imul64 (by omega) (by omega)]; omega, by omega, trivial⟩ hS fun ac gs ws hS => ?_)
   refine wp_seq (wp_block (s0 [0, 2, 3, 4, 5, 20] [0] 1 hS fun ac gs ws hS => ?_))
   refine if_d ((128 : Int) ≤ ((ys.take 1).getD 0 0)) hS (fun h3 => ?_) (fun h3 => ?_)
   ·refine wp_exit (block_exit_ne (by decide) ?_)
    refine then_exit (block_exit (then_n (rA [(0, .oi ((i + 1 : Nat) : Int))] trivial (fun _ => [iadd .i64 ((i : Nat) : Int) 1 = ((i + 1 : Nat) : Int)]) [0, 2, 5] [0] 1 ⟨by rw [iadd64 (by omega) (by omega)]; omega, trivial⟩ hS fun ac gs ws hS => ?_)))
    refine then_n ?_
    exact next_y hg0 hS (s := (i, v, ys)) (i + 1, (ior .u64 v (ishl .u64 (IntKind.wrap .u64 (iandn .u8 ((ys.take 1).getD 0 0) 128)) ((7 * i : Nat) : Int))), (ys.drop 1)) [(0, 0)] (show 10 - (i + 1) < 10 - i from by omega) ⟨(by omega), (by rw [List.length_drop]; omega), (hq ▸ ((numA_s (by omega) v (by omega)).trans (if_pos (by assumption))).symm), trivial⟩
   ·refine wp_seq (wp_seq ?_)
    by_cases h4 : ((i : Nat) : Int) = 9
    ·refine rA [(1, .ob true)] trivial (fun _ => [(decide (((i : Nat) : Int) = 9)) = true]) [0, 2, 3, 4, 5, 23] [0] 1 ⟨decide_eq_true h4, trivial⟩ hS fun ac gs ws hS => ?_
     refine then_n ?_
     refine if_d ((1 : Int) < ((ys.take 1).getD 0 0)) hS (fun h5 => ?_) (fun h5 => ?_)
     ·refine wp_skip (then_n ?_)
      refine if_d ((1 : Int) < ((ys.take 1).getD 0 0)) hS (fun h6 => ?_) (fun h6 => ?_)
      ·have e : numM xs = none := hq.symm.trans (by first | exact numA_nil _ _ _ (rfixed_n (by assumption)) | exact rfl | exact (numA_s (by omega) v (by omega)).trans ((if_neg (by omega)).trans (if_pos (by omega))) | exact (numA_s (by omega) v (by omega)).trans ((if_neg (by omega)).trans ((if_neg (by omega)).trans (if_pos (by omega)))))
       rw [num_no e] at hk
       cases hk
      ·refine wp_skip (block_n (then_n (s0 [0, 2, 5] [0] 1 hS fun ac gs ws hS => ?_)))
       refine wp_ret (block_ret (then_ret (then_ret (block_ret (then_ret ?_)))))
       have e := hq.symm.trans ((numA_s (by omega) v (by omega)).trans ((if_neg (by omega)).trans ((if_neg (by omega)).trans (if_neg (by omega)))))
       have hv := num_v e
       exact fin_y rfl (.inr rfl) hS [.v (.int .u64 (ior .u64 v (ishl .u64 (IntKind.wrap .u64 (iandn .u8 ((ys.take 1).getD 0 0) 128)) ((7 * i : Nat) : Int))))] [(0, some (.ob 188 (chain [.ls false [.int .u8] (ys.drop 1)])))] (by show weak _ (.v (.int .u64 (numV xs).1)) = .v (.int .u64 (numV xs).1); rw [hv]; rfl) (by show H1Ok _ [(0, .ob 188 (chain [.ls false [.int .u8] (numV xs).2]))] true; rw [hv]; exact ⟨rfl, trivial⟩)
     ·by_cases h7 : (0 : Int) < ((i : Nat) : Int)
      ·refine rA [(1, .ob true)] trivial (fun _ => [(decide ((0 : Int) < ((i : Nat) : Int))) = true]) [0, 2, 5, 23] [0] 1 ⟨decide_eq_true h7, trivial⟩ hS fun ac gs ws hS => ?_
       refine then_n ?_
       refine if_d (((ys.take 1).getD 0 0) = 0) hS (fun h8 => ?_) (fun h8 => ?_)
       ·have e : numM xs = none := hq.symm.trans (by first | exact numA_nil _ _ _ (rfixed_n (by assumption)) | exact rfl | exact (numA_s (by omega) v (by omega)).trans ((if_neg (by omega)).trans (if_pos (by omega))) | exact (numA_s (by omega) v (by omega)).trans ((if_neg (by omega)).trans ((if_neg (by omega)).trans (if_pos (by omega)))))
        rw [num_no e] at hk
        cases hk
       ·refine wp_skip (block_n (then_n (s0 [0, 2, 5] [0] 1 hS fun ac gs ws hS => ?_)))
        refine wp_ret (block_ret (then_ret (then_ret (block_ret (then_ret ?_)))))
        have e := hq.symm.trans ((numA_s (by omega) v (by omega)).trans ((if_neg (by omega)).trans ((if_neg (by omega)).trans (if_neg (by omega)))))
        have hv := num_v e
        exact fin_y rfl (.inr rfl) hS [.v (.int .u64 (ior .u64 v (ishl .u64 (IntKind.wrap .u64 (iandn .u8 ((ys.take 1).getD 0 0) 128)) ((7 * i : Nat) : Int))))] [(0, some (.ob 188 (chain [.ls false [.int .u8] (ys.drop 1)])))] (by show weak _ (.v (.int .u64 (numV xs).1)) = .v (.int .u64 (numV xs).1); rw [hv]; rfl) (by show H1Ok _ [(0, .ob 188 (chain [.ls false [.int .u8] (numV xs).2]))] true; rw [hv]; exact ⟨rfl, trivial⟩)
      ·refine rA [(1, .ob false)] trivial (fun _ => [(decide ((0 : Int) < ((i : Nat) : Int))) = false]) [0, 2, 5, 23] [0] 1 ⟨decide_eq_false h7, trivial⟩ hS fun ac gs ws hS => ?_
       refine then_n (cond_f hS ?_)
       refine wp_skip (block_n (then_n (s0 [0, 2, 5] [0] 1 hS fun ac gs ws hS => ?_)))
       refine wp_ret (block_ret (then_ret (then_ret (block_ret (then_ret ?_)))))
       have e := hq.symm.trans ((numA_s (by omega) v (by omega)).trans ((if_neg (by omega)).trans ((if_neg (by omega)).trans (if_neg (by omega)))))
       have hv := num_v e
       exact fin_y rfl (.inr rfl) hS [.v (.int .u64 (ior .u64 v (ishl .u64 (IntKind.wrap .u64 (iandn .u8 ((ys.take 1).getD 0 0) 128)) ((7 * i : Nat) : Int))))] [(0, some (.ob 188 (chain [.ls false [.int .u8] (ys.drop 1)])))] (by show weak _ (.v (.int .u64 (numV xs).1)) = .v (.int .u64 (numV xs).1); rw [hv]; rfl) (by show H1Ok _ [(0, .ob 188 (chain [.ls false [.int .u8] (numV xs).2]))] true; rw [hv]; exact ⟨rfl, trivial⟩)
    ·refine rA [(1, .ob false)] trivial (fun _ => [(decide (((i : Nat) : Int) = 9)) = false]) [0, 2, 3, 4, 5, 23] [0] 1 ⟨decide_eq_false h4, trivial⟩ hS fun ac gs ws hS => ?_
     refine then_n (cond_f hS ?_)
     by_cases h9 : (0 : Int) < ((i : Nat) : Int)
     ·refine rA [(1, .ob true)] trivial (fun _ => [(decide ((0 : Int) < ((i : Nat) : Int))) = true]) [0, 2, 5, 23] [0] 1 ⟨decide_eq_true h9, trivial⟩ hS fun ac gs ws hS => ?_
      refine then_n ?_
      refine if_d (((ys.take 1).getD 0 0) = 0) hS (fun h10 => ?_) (fun h10 => ?_)
      ·have e : numM xs = none := hq.symm.trans (by first | exact numA_nil _ _ _ (rfixed_n (by assumption)) | exact rfl | exact (numA_s (by omega) v (by omega)).trans ((if_neg (by omega)).trans (if_pos (by omega))) | exact (numA_s (by omega) v (by omega)).trans ((if_neg (by omega)).trans ((if_neg (by omega)).trans (if_pos (by omega)))))
       rw [num_no e] at hk
       cases hk
      ·refine wp_skip (block_n (then_n (s0 [0, 2, 5] [0] 1 hS fun ac gs ws hS => ?_)))
       refine wp_ret (block_ret (then_ret (then_ret (block_ret (then_ret ?_)))))
       have e := hq.symm.trans ((numA_s (by omega) v (by omega)).trans ((if_neg (by omega)).trans ((if_neg (by omega)).trans (if_neg (by omega)))))
       have hv := num_v e
       exact fin_y rfl (.inr rfl) hS [.v (.int .u64 (ior .u64 v (ishl .u64 (IntKind.wrap .u64 (iandn .u8 ((ys.take 1).getD 0 0) 128)) ((7 * i : Nat) : Int))))] [(0, some (.ob 188 (chain [.ls false [.int .u8] (ys.drop 1)])))] (by show weak _ (.v (.int .u64 (numV xs).1)) = .v (.int .u64 (numV xs).1); rw [hv]; rfl) (by show H1Ok _ [(0, .ob 188 (chain [.ls false [.int .u8] (numV xs).2]))] true; rw [hv]; exact ⟨rfl, trivial⟩)
     ·refine rA [(1, .ob false)] trivial (fun _ => [(decide ((0 : Int) < ((i : Nat) : Int))) = false]) [0, 2, 5, 23] [0] 1 ⟨decide_eq_false h9, trivial⟩ hS fun ac gs ws hS => ?_
      refine then_n (cond_f hS ?_)
      refine wp_skip (block_n (then_n (s0 [0, 2, 5] [0] 1 hS fun ac gs ws hS => ?_)))
      refine wp_ret (block_ret (then_ret (then_ret (block_ret (then_ret ?_)))))
      have e := hq.symm.trans ((numA_s (by omega) v (by omega)).trans ((if_neg (by omega)).trans ((if_neg (by omega)).trans (if_neg (by omega)))))
      have hv := num_v e
      exact fin_y rfl (.inr rfl) hS [.v (.int .u64 (ior .u64 v (ishl .u64 (IntKind.wrap .u64 (iandn .u8 ((ys.take 1).getD 0 0) 128)) ((7 * i : Nat) : Int))))] [(0, some (.ob 188 (chain [.ls false [.int .u8] (ys.drop 1)])))] (by show weak _ (.v (.int .u64 (numV xs).1)) = .v (.int .u64 (numV xs).1); rw [hv]; rfl) (by show H1Ok _ [(0, .ob 188 (chain [.ls false [.int .u8] (numV xs).2]))] true; rw [hv]; exact ⟨rfl, trivial⟩)
  ·skip
   skip
   have e : numM xs = none := hq.symm.trans (by first | exact numA_nil _ _ _ (rfixed_n (by assumption)) | exact rfl | exact (numA_s (by omega) v (by omega)).trans ((if_neg (by omega)).trans (if_pos (by omega))) | exact (numA_s (by omega) v (by omega)).trans ((if_neg (by omega)).trans ((if_neg (by omega)).trans (if_pos (by omega)))))
   rw [num_no e] at hk
   cases hk
 ·have hScur := hS
  obtain rfl : 10 = i := by omega
  have hS := hScur
  clear hScur
  refine wp_exit (then_exit (then_exit (block_exit (then_n ?_))))
  have e : numM xs = none := hq.symm.trans (by first | exact numA_nil _ _ _ (rfixed_n (by assumption)) | exact rfl | exact (numA_s (by omega) v (by omega)).trans ((if_neg (by omega)).trans (if_pos (by omega))) | exact (numA_s (by omega) v (by omega)).trans ((if_neg (by omega)).trans ((if_neg (by omega)).trans (if_pos (by omega)))))
  rw [num_no e] at hk
  cases hk

end Go.Sx.Tryz
namespace Go.Sx.Tryz
open Go.Mi Go.RowKit Go.Sx Go.Proofs
theorem ior64_nn (p q : Int) : 0 ≤ ior .u64 p q := (ior_rg p q).1
theorem numA_nn : ∀ (k n : Nat) (v : Int) (xs : List Int) (z : Int × List Int), numA k n v xs = some z → 0 ≤ z.1 ∧ z.2.length ≤ xs.length
 | 0, _, _, _, _, h => by cases h
 | _ + 1, _, _, [], _, h => by cases h
 | k + 1, n, v, c :: r, z, h => by
  unfold numA at h
  split at h
  ·have := numA_nn k (n + 1) _ r z h
   exact ⟨this.1, by simp only [List.length_cons]; omega⟩
  ·split at h
   ·cases h
   ·split at h
    ·cases h
    ·cases h
     exact ⟨ior64_nn _ _, by simp⟩
theorem numV_nn (xs : List Int) : 0 ≤ (numV xs).1 ∧ (numV xs).2.length ≤ xs.length := by
 unfold numV
 cases h : numM xs with
 | none => exact ⟨by simp, by simp⟩
 | some z => exact numA_nn _ _ _ _ z h
noncomputable def small_kv (xs : List Int) (m : Nat) : Bool := if numB xs = true then (if ((m : Nat) : Int) < ((numV xs).1) then false else true) else false
noncomputable def small_k (xs : List Int) (m : Nat) : Bool := shut (small_kv xs m)
theorem small_ke (xs : List Int) (m : Nat) : small_k xs m = small_kv xs m := shut_eq _
noncomputable def small_p_ev (xs : List Int) (m : Nat) : Nat := if numB xs = true then 11 else 2
noncomputable def small_p_e (xs : List Int) (m : Nat) : Nat := shut (small_p_ev xs m)
theorem small_p_ee (xs : List Int) (m : Nat) : small_p_e xs m = small_p_ev xs m := shut_eq _
noncomputable def c_small (xs : List Int) (m : Nat) : Con := ⟨[.cp 0 0, .v (.int .i64 ((m : Nat) : Int))], [(0, .ob 188 (chain [.ls false [.int .u8] xs]))], .v (.int .i64 (((((numV xs).1).toNat) : Nat) : Int)), [(0, .ob 188 (chain [.ls false [.int .u8] ((numV xs).2)]))]⟩
set_option maxRecDepth 100000 in
set_option maxHeartbeats 1000000 in
theorem small_ok (xs : List Int) (m : Nat) (h : xs.length ≤ 100000000000000) (hm : m ≤ 100000000000000) (hk : small_k xs m = true) : ConOk Tryz.prog 139 (c_small xs m) := by
 refine conOk_of rfl (nb := 1) Tryz.func139 rfl rfl Tryz.ntmps139 rfl rfl rfl fun g0 w0 ac gs ws hg0 hS => ?_
 have hS := hS.sp
 refine s0 [0, 1, 4] [0] 1 hS fun ac gs ws hS => ?_
 refine wp_seq (sA [(1, .ob false)] trivial (fun _ => [(decide (((m : Nat) : Int) < 0)) = false]) [0, 1, 4, 7] [0] 1 ⟨decide_eq_false (by omega), trivial⟩ hS fun ac gs ws hS => ?_)
 refine cond_f hS ?_
 refine wp_skip (then_n (wp_seq ?_))
 by_cases h1 : numB xs = true
 ·refine rA [(1, .call ⟨126, (c_num xs), [(0, 0)], []⟩)] ⟨num_ok xs (by first | omega | (simp only [List.length_append, List.length_drop, List.length_take, List.length_replicate, List.length_cons, List.length_nil, List.length_map, List.length_range] <;> omega) | (simp <;> omega)) h1, trivial⟩ (fun C => [ndC C 1]) [1, 4, 5] [0] 1 ⟨rfl, trivial⟩ hS fun ac gs ws hS => ?_
  refine then_n (wp_seq (sA [(2, .oi ((m : Nat) : Int))] trivial (fun _ => [IntKind.wrap .u64 ((m : Nat) : Int) = ((m : Nat) : Int)]) [4, 5, 14] [0] 1 ⟨wrap_u64 (by omega) (by omega), trivial⟩ hS fun ac gs ws hS => ?_))
  refine if_d (((m : Nat) : Int) < ((numV xs).1)) hS (fun h2 => ?_) (fun h2 => ?_)
  ·have hK : small_k xs m = false := (small_ke xs m).trans ((if_pos h1).trans (if_pos h2))
   rw [hK] at hk
   cases hk
  ·refine wp_skip (then_n (wp_seq ?_))
   have hnn := numV_nn xs
   refine rA [(1, .oi ((((numV xs).1).toNat : Nat) : Int))] trivial (fun _ => [IntKind.wrap .i64 ((numV xs).1) = ((((numV xs).1).toNat : Nat) : Int)]) [4] [0] 1 ⟨(wrap_i64 (by omega) (by omega)).trans (by omega), trivial⟩ hS fun ac gs ws hS => ?_
   refine then_n (wp_ret ?_)
   exact fin_y rfl (.inr rfl) hS [.v (.int .i64 ((((numV xs).1).toNat : Nat) : Int))] [(0, some (.ob 188 (chain [.ls false [.int .u8] ((numV xs).2)])))] rfl ⟨rfl, trivial⟩
 ·have hK : small_k xs m = false := (small_ke xs m).trans (if_neg h1)
  rw [hK] at hk
  cases hk
noncomputable def rend_kv (xs : List Int) : Bool := if (0 : Int) < ((xs.length : Nat) : Int) then false else true
noncomputable def rend_k (xs : List Int) : Bool := shut (rend_kv xs)
theorem rend_ke (xs : List Int) : rend_k xs = rend_kv xs := shut_eq _
noncomputable def c_rend (xs : List Int) : Con := ⟨[.cp 0 0], [(0, .ob 188 (chain [.ls false [.int .u8] xs]))], .tu (chain []), [(0, .ob 188 (chain [.ls false [.int .u8] xs]))]⟩
set_option maxRecDepth 100000 in
set_option maxHeartbeats 1000000 in
theorem rend_ok (xs : List Int) (hk : rend_k xs = true) : ConOk Tryz.prog 90 (c_rend xs) := by
 refine conOk_of rfl (nb := 1) Tryz.func90 rfl rfl Tryz.ntmps90 rfl rfl rfl fun g0 w0 ac gs ws hg0 hS => ?_
 have hS := hS.sp
 refine s0 [11] [0] 1 hS fun ac gs ws hS => ?_
 refine if_d ((0 : Int) < ((xs.length : Nat) : Int)) hS (fun h1 => ?_) (fun h1 => ?_)
 ·have hK : rend_k xs = false := (rend_ke xs).trans (if_pos h1)
  rw [hK] at hk
  cases hk
 ·refine wp_skip ?_
  exact fin_y rfl (.inl rfl) hS [] [(0, some (.ob 188 (chain [.ls false [.int .u8] xs])))] rfl ⟨rfl, trivial⟩
noncomputable def c_newrd (xs : List Int) : Con := ⟨[.ls false [.int .u8] xs], [], .cp 0 0, [(0, .ob 188 (chain [.ls false [.int .u8] xs]))]⟩
set_option maxRecDepth 100000 in
set_option maxHeartbeats 1000000 in
theorem newrd_ok (xs : List Int) (h : xs.length ≤ 100000000000000) : ConOk Tryz.prog 89 (c_newrd xs) := by
 refine conOk_of rfl (nb := 0) Tryz.func89 rfl rfl Tryz.ntmps89 rfl rfl rfl fun g0 w0 ac gs ws hg0 hS => ?_
 have hlen0 : xs.length ≤ 9223372036854775807 := hS.len 0 rfl
 have hS := hS.sp
 refine s0 [0, 2] [] 0 hS fun ac gs ws hS => ?_
 refine sA [(1, .call ⟨81, (c_clone xs), [], []⟩)] ⟨clone_ok xs (by first | omega | (simp only [List.length_append, List.length_drop, List.length_take, List.length_replicate, List.length_cons, List.length_nil, List.length_map, List.length_range] <;> omega) | (simp <;> omega)), trivial⟩ (fun C => [ndC C 1]) [2] [0] 1 ⟨rfl, trivial⟩ hS fun ac gs ws hS => ?_
 refine wp_ret ?_
 exact fin_y rfl (.inr rfl) hS [.cp 0 0] [(0, some (.ob 188 (chain [.ls false [.int .u8] xs])))] rfl ⟨rfl, trivial⟩

end Go.Sx.Tryz
namespace Go.Sx.Tryz
open Go.Mi Go.RowKit Go.Sx Go.Proofs
noncomputable def rbytes1_kv (xs : List Int) (m : Nat) : Bool := if small_k xs m = true then (if rfixed_k ((numV xs).2) (((numV xs).1).toNat) = true then true else false) else false
noncomputable def rbytes1_k (xs : List Int) (m : Nat) : Bool := shut (rbytes1_kv xs m)
theorem rbytes1_ke (xs : List Int) (m : Nat) : rbytes1_k xs m = rbytes1_kv xs m := shut_eq _
noncomputable def rbytes1_p_ev (xs : List Int) (m : Nat) : Nat := if small_k xs m = true then 2 else (small_p_e xs m)
noncomputable def rbytes1_p_e (xs : List Int) (m : Nat) : Nat := shut (rbytes1_p_ev xs m)
theorem rbytes1_p_ee (xs : List Int) (m : Nat) : rbytes1_p_e xs m = rbytes1_p_ev xs m := shut_eq _
noncomputable def c_rbytes1 (xs : List Int) (m : Nat) : Con := ⟨[.cp 0 0, .v (.int .i64 ((m : Nat) : Int))], [(0, .ob 188 (chain [.ls false [.int .u8] xs]))], .ls false [.int .u8] (((numV xs).2).take (((numV xs).1).toNat)), [(0, .ob 188 (chain [.ls false [.int .u8] (((numV xs).2).drop (((numV xs).1).toNat))]))]⟩
set_option maxRecDepth 100000 in
set_option maxHeartbeats 1000000 in
theorem rbytes1_ok (xs : List Int) (m : Nat) (h : xs.length ≤ 100000000000000) (hm : m ≤ 100000000000000) (hk : rbytes1_k xs m = true) : ConOk Tryz.prog 102 (c_rbytes1 xs m) := by
 refine conOk_of rfl (nb := 1) Tryz.func102 rfl rfl Tryz.ntmps102 rfl rfl rfl fun g0 w0 ac gs ws hg0 hS => ?_
 have hS := hS.sp
 refine s0 [0, 1, 4] [0] 1 hS fun ac gs ws hS => ?_
 refine wp_seq ?_
 have hnn := numV_nn xs
 by_cases h1 : small_k xs m = true
 ·have hnn := numV_nn xs
  by_cases h2 : rfixed_k ((numV xs).2) (((numV xs).1).toNat) = true
  ·have hnn := numV_nn xs
   refine rA [(3, .call ⟨139, (c_small xs m), [(0, 0)], []⟩), (4, .call ⟨91, (c_rfixed ((numV xs).2) (((numV xs).1).toNat)), [(0, 0)], []⟩)] ⟨small_ok xs m (by first | omega | (simp only [List.length_append, List.length_drop, List.length_take, List.length_replicate, List.length_cons, List.length_nil, List.length_map, List.length_range] <;> omega) | (simp <;> omega)) (by omega) h1, rfixed_ok ((numV xs).2) (((numV xs).1).toNat) (by first | omega | (simp only [List.length_append, List.length_drop, List.length_take, List.length_replicate, List.length_cons, List.length_nil, List.length_map, List.length_range] <;> omega) | (simp <;> omega)) h2, trivial⟩ (fun C => [ndC C 3, ndC C 4]) [4] [0] 1 ⟨rfl, rfl, trivial⟩ hS fun ac gs ws hS => ?_
   refine then_n (wp_ret ?_)
   exact fin_y rfl (.inr rfl) hS [.ls false [.int .u8] (((numV xs).2).take (((numV xs).1).toNat))] [(0, some (.ob 188 (chain [.ls false [.int .u8] (((numV xs).2).drop (((numV xs).1).toNat))])))] rfl ⟨rfl, trivial⟩
  ·have hnn := numV_nn xs
   have hK : rbytes1_k xs m = false := (rbytes1_ke xs m).trans ((if_pos h1).trans (if_neg h2))
   rw [hK] at hk
   cases hk
 ·have hnn := numV_nn xs
  have hK : rbytes1_k xs m = false := (rbytes1_ke xs m).trans (if_neg h1)
  rw [hK] at hk
  cases hk
end Go.Sx.Tryz
namespace Go.Sx.Tryz
open Go.Mi Go.RowKit Go.Sx Go.Proofs
noncomputable def c_wfixed (b xs : List Int) : Con := ⟨[.cp 0 0, .ls false [.int .u8] xs], [(0, .ob 97 (chain [.sk 1])), (1, .sl 5 [.int .u8] b)], .cp 0 0, [(0, .ob 97 (chain [.sk 2])), (2, .sl 5 [.int .u8] (b ++ xs))]⟩
set_option maxRecDepth 100000 in
set_option maxHeartbeats 1000000 in
theorem wfixed_ok (b xs : List Int) (hb : b.length ≤ 100000000000) (hx : xs.length ≤ 10000000000) : ConOk Tryz.prog 53 (c_wfixed b xs) := by
 refine conOk_of rfl (nb := 2) Tryz.func53 rfl rfl Tryz.ntmps53 rfl rfl rfl fun g0 w0 ac gs ws hg0 hS => ?_
 have hlen1 : xs.length ≤ 9223372036854775807 := hS.len 1 rfl
 have hlenk1 : b.length ≤ 9223372036854775807 := hS.lens 1 rfl
 have hS := hS.sp
 refine s0 [0, 1, 4] [0, 1] 2 hS fun ac gs ws hS => ?_
 refine wp_seq (s0 [0, 1, 4, 6] [0, 1] 2 hS fun ac gs ws hS => ?_)
 refine cond_t hS ?_
 refine rA [] trivial (fun _ => [b.length + xs.length ≤ 9223372036854775807, (b.length + xs.length) * 1 ≤ 140737488355328]) [0, 4] [0, 2] 3 ⟨by omega, by omega, trivial⟩ hS fun ac gs ws hS => ?_
 refine then_n (s0 [4] [0, 2] 3 hS fun ac gs ws hS => ?_)
 refine wp_ret ?_
 exact fin_y rfl (.inr rfl) hS [.cp 0 0] [(0, some (.ob 97 (chain [.sk 2]))), (2, some (.sl 5 [.int .u8] (b ++ xs)))] rfl ⟨rfl, rfl, trivial⟩

def numW (n : Nat) : List Int := if 128 ≤ n then ior .u8 (IntKind.wrap .u8 ((n : Nat) : Int)) 128 :: numW (n / 128) else [IntKind.wrap .u8 ((n : Nat) : Int)]
termination_by n
decreasing_by omega
theorem numW_y {n : Nat} (h : 128 ≤ n) : numW n = ior .u8 (IntKind.wrap .u8 ((n : Nat) : Int)) 128 :: numW (n / 128) := by rw [numW, if_pos h]
theorem numW_n {n : Nat} (h : ¬ 128 ≤ n) : numW n = [IntKind.wrap .u8 ((n : Nat) : Int)] := by rw [numW, if_neg h]
theorem numW_len : ∀ (k n : Nat), n < 128 ^ (k + 1) → (numW n).length ≤ k + 1
 | 0, n, h => by rw [numW_n (by omega)]; simp
 | k + 1, n, h => by
  by_cases h1 : 128 ≤ n
  ·rw [numW_y h1, List.length_cons]
   have := numW_len k (n / 128) (by rw [Nat.pow_succ] at h; exact Nat.div_lt_of_lt_mul (by omega))
   omega
  ·rw [numW_n h1]; simp
theorem numW_10 {n : Nat} (h : n < 18446744073709551616) : (numW n).length ≤ 10 := numW_len 9 n (Nat.lt_trans h (by decide))
theorem shr7 {m : Nat} : ishr .u64 ((m : Nat) : Int) 7 = ((m / 128 : Nat) : Int) := by
 unfold ishr
 rw [show min (7 : Int).toNat (IntKind.bits .u64) = 7 from rfl, fdiv_nat (by omega), Int.toNat_natCast, Nat.shiftRight_eq_div_pow]
noncomputable def c_wnum (b : List Int) (n : Nat) : Con := ⟨[.cp 0 0, .v (.int .u64 ((n : Nat) : Int))], [(0, .ob 97 (chain [.sk 1])), (1, .sl 5 [.int .u8] b)], .cp 0 0, [(0, .ob 97 (chain [.sk 2])), (2, .sl 5 [.int .u8] (b ++ numW n))]⟩
set_option maxRecDepth 100000 in
set_option maxHeartbeats 1000000 in
theorem wnum_ok (b : List Int) (n : Nat) (hb : b.length ≤ 90000000000) (hn : n < 18446744073709551616) : ConOk Tryz.prog 47 (c_wnum b n) := by
 refine conOk_of rfl (nb := 2) Tryz.func47 rfl rfl Tryz.ntmps47 rfl rfl rfl fun g0 w0 ac gs ws hg0 hS => ?_
 have hlenk1 : b.length ≤ 9223372036854775807 := hS.lens 1 rfl
 have hS := hS.sp
 refine s0 [0, 1, 4] [0, 1] 2 hS fun ac gs ws hS => ?_
 refine wp_seq (wp_block ?_)
 obtain ⟨gs, hS⟩ := hS.alias 1
 refine loop_y (ι := Nat × (List Int)) hg0 hS (fun z_ => match z_ with | (m, o) => m) (fun z_ => match z_ with | (m, o) => [(0, .cp 0 0), (1, .v (.int .u64 ((m : Nat) : Int))), (4, .v (.pointer none))]) (fun z_ => match z_ with | (m, o) => [(0, .ob 97 (chain [.sk 2])), (2, .sl 5 [.int .u8] o)]) (fun z_ => match z_ with | (m, o) => (m < 18446744073709551616) ∧ (o.length + (numW m).length = b.length + (numW n).length) ∧ (o ++ numW m = b ++ numW n) ∧ True) 3 (n, b) [(0, 0), (1, 1), (2, 2)] ⟨hn, rfl, rfl, trivial⟩ ?_
 rintro ⟨m, o⟩ ac gs ws ⟨hm, hol, hq, _⟩ hS
 refine wp_seq (s0 [0, 1, 4, 6] [0, 2] 3 hS fun ac gs ws hS => ?_)
 refine if_d ((128 : Int) ≤ ((m : Nat) : Int)) hS (fun h1 => ?_) (fun h1 => ?_)
 ·refine wp_skip (then_n (wp_seq (wp_block ?_)))
  have h10 := numW_10 hn
  refine rA [(5, .call ⟨53, (c_wfixed o [(ior .u8 (IntKind.wrap .u8 ((m : Nat) : Int)) 128)]), [(0, 0), (1, 2)], [(2, 3)]⟩)] ⟨wfixed_ok o [(ior .u8 (IntKind.wrap .u8 ((m : Nat) : Int)) 128)] (by first | omega | (simp only [List.length_append, List.length_drop, List.length_take, List.length_replicate, List.length_cons, List.length_nil, List.length_map, List.length_range] <;> omega) | (simp <;> omega)) (by first | omega | (simp only [List.length_append, List.length_drop, List.length_take, List.length_replicate, List.length_cons, List.length_nil, List.length_map, List.length_range] <;> omega) | (simp <;> omega)), trivial⟩ (fun C => [ndC C 5]) [0, 1, 4] [0, 3] 4 ⟨rfl, trivial⟩ hS fun ac gs ws hS => ?_
  refine block_n (then_n (rA [(1, .oi ((m / 128 : Nat) : Int))] trivial (fun _ => [ishr .u64 ((m : Nat) : Int) 7 = ((m / 128 : Nat) : Int), (0 : Int) ≤ 7]) [0, 1, 4] [0, 3] 4 ⟨shr7, by omega, trivial⟩ hS fun ac gs ws hS => ?_))
  refine then_n ?_
  exact next_y hg0 hS (s := (m, o)) (m / 128, (o ++ [(ior .u8 (IntKind.wrap .u8 ((m : Nat) : Int)) 128)])) [(0, 0), (1, 1), (2, 3)] (show m / 128 < m from by omega) ⟨(by omega), (by rw [List.length_append, ← hol, numW_y (n := m) (by omega)]; simp only [List.length_cons, List.length_nil]; omega), (by rw [List.append_assoc, ← hq, numW_y (n := m) (by omega)]; rfl), trivial⟩
 ·have hScur := hS
  have hS := hScur
  clear hScur
  refine wp_exit (then_exit (then_exit (block_exit (then_n (wp_seq ?_)))))
  have h10 := numW_10 hn
  have e : o ++ [IntKind.wrap .u8 ((m : Nat) : Int)] = b ++ numW n := by rw [← hq, numW_n (by omega)]
  refine rA [(4, .call ⟨53, (c_wfixed o [(IntKind.wrap .u8 ((m : Nat) : Int))]), [(0, 0), (1, 2)], [(2, 3)]⟩)] ⟨wfixed_ok o [(IntKind.wrap .u8 ((m : Nat) : Int))] (by first | omega | (simp only [List.length_append, List.length_drop, List.length_take, List.length_replicate, List.length_cons, List.length_nil, List.length_map, List.length_range] <;> omega) | (simp <;> omega)) (by first | omega | (simp only [List.length_append, List.length_drop, List.length_take, List.length_replicate, List.length_cons, List.length_nil, List.length_map, List.length_range] <;> omega) | (simp <;> omega)), trivial⟩ (fun C => [ndC C 4]) [4] [0, 3] 4 ⟨rfl, trivial⟩ hS fun ac gs ws hS => ?_
  refine then_n (wp_ret ?_)
  obtain ⟨gs, hS⟩ := hS.rn [(0, 0), (1, 1), (2, 3)] [(4, .cp 0 0)] [(0, .ob 97 (chain [.sk 2])), (2, .sl 5 [.int .u8] (o ++ [(IntKind.wrap .u8 ((m : Nat) : Int))]))] 3 hg0
  exact fin_y rfl (.inr rfl) hS [.cp 0 0] [(0, some (.ob 97 (chain [.sk 2]))), (2, some (.sl 5 [.int .u8] (o ++ [(IntKind.wrap .u8 ((m : Nat) : Int))])))] rfl (by show H1Ok _ [(0, .ob 97 (chain [.sk 2])), (2, .sl 5 [.int .u8] (b ++ numW n))] true; rw [← e]; exact ⟨rfl, rfl, trivial⟩)

noncomputable def c_wnum0 (n : Nat) : Con := ⟨[.cp 0 0, .v (.int .u64 ((n : Nat) : Int))], [(0, .ob 97 (chain [.v (.slice none 0 0)]))], .cp 0 0, [(0, .ob 97 (chain [.sk 1])), (1, .sl 5 [.int .u8] ([] ++ numW n))]⟩
set_option maxRecDepth 100000 in
set_option maxHeartbeats 1000000 in
theorem wnum0_ok (n : Nat) (hn : n < 18446744073709551616) : ConOk Tryz.prog 47 (c_wnum0 n) := by
 refine conOk_of rfl (nb := 1) Tryz.func47 rfl rfl Tryz.ntmps47 rfl rfl rfl fun g0 w0 ac gs ws hg0 hS => ?_
 have hS := hS.sp
 refine wp_seq ?_
 obtain ⟨gs, hS⟩ := hS.nilob 0 0 5 [.int .u8]
 refine r0 [0, 1, 4] [0, 1] 2 hS fun ac gs ws hS => ?_
 refine then_n (wp_seq (wp_block (loop_y (ι := Nat × (List Int)) hg0 hS (fun z_ => match z_ with | (m, o) => m) (fun z_ => match z_ with | (m, o) => [(0, .cp 0 0), (1, .v (.int .u64 ((m : Nat) : Int))), (4, .v (.pointer none))]) (fun z_ => match z_ with | (m, o) => [(0, .ob 97 (chain [.sk 2])), (2, .sl 5 [.int .u8] o)]) (fun z_ => match z_ with | (m, o) => (m < 18446744073709551616) ∧ (o.length + (numW m).length = 0 + (numW n).length) ∧ (o ++ numW m = ([] : List Int) ++ numW n) ∧ True) 3 (n, []) [(0, 0), (2, 1)] ⟨hn, (by simp), rfl, trivial⟩ ?_)))
 rintro ⟨m, o⟩ ac gs ws ⟨hm, hol, hq, _⟩ hS
 refine wp_seq (s0 [0, 1, 4, 6] [0, 2] 3 hS fun ac gs ws hS => ?_)
 refine if_d ((128 : Int) ≤ ((m : Nat) : Int)) hS (fun h1 => ?_) (fun h1 => ?_)
 ·refine wp_skip (then_n (wp_seq (wp_block ?_)))
  have h10 := numW_10 hn
  refine rA [(5, .call ⟨53, (c_wfixed o [(ior .u8 (IntKind.wrap .u8 ((m : Nat) : Int)) 128)]), [(0, 0), (1, 2)], [(2, 3)]⟩)] ⟨wfixed_ok o [(ior .u8 (IntKind.wrap .u8 ((m : Nat) : Int)) 128)] (by first | omega | (simp only [List.length_append, List.length_drop, List.length_take, List.length_replicate, List.length_cons, List.length_nil, List.length_map, List.length_range] <;> omega) | (simp <;> omega)) (by first | omega | (simp only [List.length_append, List.length_drop, List.length_take, List.length_replicate, List.length_cons, List.length_nil, List.length_map, List.length_range] <;> omega) | (simp <;> omega)), trivial⟩ (fun C => [ndC C 5]) [0, 1, 4] [0, 3] 4 ⟨rfl, trivial⟩ hS fun ac gs ws hS => ?_
  refine block_n (then_n (rA [(1, .oi ((m / 128 : Nat) : Int))] trivial (fun _ => [ishr .u64 ((m : Nat) : Int) 7 = ((m / 128 : Nat) : Int), (0 : Int) ≤ 7]) [0, 1, 4] [0, 3] 4 ⟨shr7, by omega, trivial⟩ hS fun ac gs ws hS => ?_))
  refine then_n ?_
  exact next_y hg0 hS (s := (m, o)) (m / 128, (o ++ [(ior .u8 (IntKind.wrap .u8 ((m : Nat) : Int)) 128)])) [(0, 0), (2, 3)] (show m / 128 < m from by omega) ⟨(by omega), (by rw [List.length_append, ← hol, numW_y (n := m) (by omega)]; simp only [List.length_cons, List.length_nil]; omega), (by rw [List.append_assoc, ← hq, numW_y (n := m) (by omega)]; rfl), trivial⟩
 ·have hScur := hS
  have hS := hScur
  clear hScur
  refine wp_exit (then_exit (then_exit (block_exit (then_n (wp_seq ?_)))))
  have h10 := numW_10 hn
  have e : o ++ [IntKind.wrap .u8 ((m : Nat) : Int)] = ([] : List Int) ++ numW n := by rw [← hq, numW_n (by omega)]
  refine rA [(4, .call ⟨53, (c_wfixed o [(IntKind.wrap .u8 ((m : Nat) : Int))]), [(0, 0), (1, 2)], [(2, 3)]⟩)] ⟨wfixed_ok o [(IntKind.wrap .u8 ((m : Nat) : Int))] (by first | omega | (simp only [List.length_append, List.length_drop, List.length_take, List.length_replicate, List.length_cons, List.length_nil, List.length_map, List.length_range] <;> omega) | (simp <;> omega)) (by first | omega | (simp only [List.length_append, List.length_drop, List.length_take, List.length_replicate, List.length_cons, List.length_nil, List.length_map, List.length_range] <;> omega) | (simp <;> omega)), trivial⟩ (fun C => [ndC C 4]) [4] [0, 3] 4 ⟨rfl, trivial⟩ hS fun ac gs ws hS => ?_
  refine then_n (wp_ret ?_)
  obtain ⟨gs, hS⟩ := hS.rn [(0, 0), (1, 3)] [(4, .cp 0 0)] [(0, .ob 97 (chain [.sk 1])), (1, .sl 5 [.int .u8] (o ++ [(IntKind.wrap .u8 ((m : Nat) : Int))]))] 2 hg0
  exact fin_y rfl (.inr rfl) hS [.cp 0 0] [(0, some (.ob 97 (chain [.sk 1]))), (1, some (.sl 5 [.int .u8] (o ++ [(IntKind.wrap .u8 ((m : Nat) : Int))])))] rfl (by show H1Ok _ [(0, .ob 97 (chain [.sk 1])), (1, .sl 5 [.int .u8] (([] : List Int) ++ numW n))] true; rw [← e]; exact ⟨rfl, rfl, trivial⟩)

end Go.Sx.Tryz
namespace Go.Sx.Tryz
open Go.Mi Go.RowKit Go.Sx Go.Proofs
noncomputable def c_wbytes (b xs : List Int) : Con := ⟨[.cp 0 0, .ls false [.int .u8] xs], [(0, .ob 97 (chain [.sk 1])), (1, .sl 5 [.int .u8] b)], .cp 0 0, [(0, .ob 97 (chain [.sk 2])), (2, .sl 5 [.int .u8] ((b ++ numW xs.length) ++ xs))]⟩
set_option maxRecDepth 100000 in
set_option maxHeartbeats 1000000 in
theorem wbytes_ok (b xs : List Int) (hb : b.length ≤ 80000000000) (hx : xs.length ≤ 10000000000) : ConOk Tryz.prog 48 (c_wbytes b xs) := by
 refine conOk_of rfl (nb := 2) Tryz.func48 rfl rfl Tryz.ntmps48 rfl rfl rfl fun g0 w0 ac gs ws hg0 hS => ?_
 have hlen1 : xs.length ≤ 9223372036854775807 := hS.len 1 rfl
 have hlenk1 : b.length ≤ 9223372036854775807 := hS.lens 1 rfl
 have hS := hS.sp
 refine s0 [0, 1, 4] [0, 1] 2 hS fun ac gs ws hS => ?_
 refine wp_seq ?_
 have h10 := numW_10 (n := xs.length) (by omega)
 refine rA [(3, .oi ((xs.length : Nat) : Int)), (4, .call ⟨47, (c_wnum b xs.length), [(0, 0), (1, 1)], [(2, 2)]⟩), (6, .call ⟨53, (c_wfixed (b ++ numW xs.length) xs), [(0, 0), (1, 2)], [(2, 3)]⟩)] ⟨wnum_ok b xs.length (by first | omega | (simp only [List.length_append, List.length_drop, List.length_take, List.length_replicate, List.length_cons, List.length_nil, List.length_map, List.length_range] <;> omega) | (simp <;> omega)) (by omega), wfixed_ok (b ++ numW xs.length) xs (by first | omega | (simp only [List.length_append, List.length_drop, List.length_take, List.length_replicate, List.length_cons, List.length_nil, List.length_map, List.length_range] <;> omega) | (simp <;> omega)) (by first | omega | (simp only [List.length_append, List.length_drop, List.length_take, List.length_replicate, List.length_cons, List.length_nil, List.length_map, List.length_range] <;> omega) | (simp <;> omega)), trivial⟩ (fun C => [IntKind.wrap .u64 ((xs.length : Nat) : Int) = ((xs.length : Nat) : Int), ndC C 4, ndC C 6]) [4] [0, 3] 4 ⟨wrap_u64 (by omega) (by omega), rfl, rfl, trivial⟩ hS fun ac gs ws hS => ?_
 refine then_n (wp_ret ?_)
 obtain ⟨gs, hS⟩ := hS.rn [(0, 0), (1, 1), (2, 3)] [(4, .cp 0 0)] [(0, .ob 97 (chain [.sk 2])), (2, .sl 5 [.int .u8] ((b ++ numW xs.length) ++ xs))] 3 hg0
 exact fin_y rfl (.inr rfl) hS [.cp 0 0] [(0, some (.ob 97 (chain [.sk 2]))), (2, some (.sl 5 [.int .u8] ((b ++ numW xs.length) ++ xs)))] rfl ⟨rfl, rfl, trivial⟩

noncomputable def c_wbytes0 (xs : List Int) : Con := ⟨[.cp 0 0, .ls false [.int .u8] xs], [(0, .ob 97 (chain [.v (.slice none 0 0)]))], .cp 0 0, [(0, .ob 97 (chain [.sk 1])), (1, .sl 5 [.int .u8] (([] ++ numW xs.length) ++ xs))]⟩
set_option maxRecDepth 100000 in
set_option maxHeartbeats 1000000 in
theorem wbytes0_ok (xs : List Int) (hx : xs.length ≤ 10000000000) : ConOk Tryz.prog 48 (c_wbytes0 xs) := by
 refine conOk_of rfl (nb := 1) Tryz.func48 rfl rfl Tryz.ntmps48 rfl rfl rfl fun g0 w0 ac gs ws hg0 hS => ?_
 have hlen1 : xs.length ≤ 9223372036854775807 := hS.len 1 rfl
 have hS := hS.sp
 refine s0 [0, 1, 4] [0] 1 hS fun ac gs ws hS => ?_
 refine wp_seq ?_
 have h10 := numW_10 (n := xs.length) (by omega)
 refine rA [(3, .oi ((xs.length : Nat) : Int)), (4, .call ⟨47, (c_wnum0 xs.length), [(0, 0)], [(1, 1)]⟩), (6, .call ⟨53, (c_wfixed ([] ++ numW xs.length) xs), [(0, 0), (1, 1)], [(2, 2)]⟩)] ⟨wnum0_ok xs.length (by omega), wfixed_ok ([] ++ numW xs.length) xs (by first | omega | (simp only [List.length_append, List.length_drop, List.length_take, List.length_replicate, List.length_cons, List.length_nil, List.length_map, List.length_range] <;> omega) | (simp <;> omega)) (by first | omega | (simp only [List.length_append, List.length_drop, List.length_take, List.length_replicate, List.length_cons, List.length_nil, List.length_map, List.length_range] <;> omega) | (simp <;> omega)), trivial⟩ (fun C => [IntKind.wrap .u64 ((xs.length : Nat) : Int) = ((xs.length : Nat) : Int), ndC C 4, ndC C 6]) [4] [0, 2] 3 ⟨wrap_u64 (by omega) (by omega), rfl, rfl, trivial⟩ hS fun ac gs ws hS => ?_
 refine then_n (wp_ret ?_)
 obtain ⟨gs, hS⟩ := hS.rn [(0, 0), (1, 2)] [(4, .cp 0 0)] [(0, .ob 97 (chain [.sk 1])), (1, .sl 5 [.int .u8] (([] ++ numW xs.length) ++ xs))] 2 hg0
 exact fin_y rfl (.inr rfl) hS [.cp 0 0] [(0, some (.ob 97 (chain [.sk 1]))), (1, some (.sl 5 [.int .u8] (([] ++ numW xs.length) ++ xs)))] rfl ⟨rfl, rfl, trivial⟩

noncomputable def c_wdone (b : List Int) : Con := ⟨[.cp 0 0], [(0, .ob 97 (chain [.sk 1])), (1, .sl 5 [.int .u8] b)], .ls false [.int .u8] b, [(0, .ob 97 (chain [.ls false [.int .u8] b]))]⟩
set_option maxRecDepth 100000 in
set_option maxHeartbeats 1000000 in
theorem wdone_ok (b : List Int) (hb : b.length ≤ 90000000000000) : ConOk Tryz.prog 49 (c_wdone b) := by
 refine conOk_of rfl (nb := 2) Tryz.func49 rfl rfl Tryz.ntmps49 rfl rfl rfl fun g0 w0 ac gs ws hg0 hS => ?_
 have hlenk1 : b.length ≤ 9223372036854775807 := hS.lens 1 rfl
 have hS := hS.sp
 refine s0 [0, 2] [0, 1] 2 hS fun ac gs ws hS => ?_
 refine wp_seq (s0 [0, 2, 4] [0, 1] 2 hS fun ac gs ws hS => ?_)
 refine cond_f hS ?_
 refine wp_skip (then_n (wp_seq ?_))
 obtain ⟨gs, hS⟩ := hS.fz 1
 refine rA [(4, .call ⟨81, (c_clone b), [], []⟩)] ⟨clone_ok b (by first | omega | (simp only [List.length_append, List.length_drop, List.length_take, List.length_replicate, List.length_cons, List.length_nil, List.length_map, List.length_range] <;> omega) | (simp <;> omega)), trivial⟩ (fun C => [ndC C 4]) [2] [0] 2 ⟨rfl, trivial⟩ hS fun ac gs ws hS => ?_
 refine then_n (wp_ret ?_)
 exact fin_y rfl (.inr rfl) hS [.ls false [.int .u8] b] [(0, some (.ob 97 (chain [.ls false [.int .u8] b])))] rfl ⟨rfl, trivial⟩

end Go.Sx.Tryz
namespace Go.Sx.Tryz
open Go.Mi Go.RowKit Go.Sx Go.Proofs
noncomputable def rot32_v (x k : Int) : Int := (ior .u32 (ishl .u32 x (iand .u64 (IntKind.wrap .u64 k) 31)) (ishr .u32 x (isub .u64 32 (iand .u64 (IntKind.wrap .u64 k) 31))))
noncomputable def rot32_m (x k : Int) : Int := shut (rot32_v x k)
theorem rot32_e (x k : Int) : rot32_m x k = rot32_v x k := shut_eq _
noncomputable def c_rot32 (x k : Int) : Con := ⟨[.v (.int .u32 x), .v (.int .i64 k)], [], .v (.int .u32 (rot32_m x k)), []⟩
set_option maxRecDepth 100000 in
set_option maxHeartbeats 1000000 in
theorem rot32_ok (x k : Int) : ConOk Tryz.prog 191 (c_rot32 x k) := by
 refine conOk_of rfl (nb := 0) Tryz.func191 rfl rfl Tryz.ntmps191 rfl rfl rfl fun g0 w0 ac gs ws hg0 hS => ?_
 have hS := hS.sp
 refine s0 [0, 1, 4] [] 0 hS fun ac gs ws hS => ?_
 refine s0 [0, 4, 5] [] 0 hS fun ac gs ws hS => ?_
 refine sA [] trivial (fun _ => [(0 : Int) ≤ (iand .u64 (IntKind.wrap .u64 k) 31), (0 : Int) ≤ (isub .u64 32 (iand .u64 (IntKind.wrap .u64 k) 31))]) [4] [] 0 ⟨wrap_nn rfl, wrap_nn rfl, trivial⟩ hS fun ac gs ws hS => ?_
 refine wp_ret ?_
 have hM : rot32_m x k = (ior .u32 (ishl .u32 x (iand .u64 (IntKind.wrap .u64 k) 31)) (ishr .u32 x (isub .u64 32 (iand .u64 (IntKind.wrap .u64 k) 31)))) := rot32_e x k
 exact fin_y rfl (.inr rfl) hS [.v (.int .u32 (ior .u32 (ishl .u32 x (iand .u64 (IntKind.wrap .u64 k) 31)) (ishr .u32 x (isub .u64 32 (iand .u64 (IntKind.wrap .u64 k) 31)))))] [] (by show weak _ (.v (.int .u32 (rot32_m x k))) = (.v (.int .u32 (rot32_m x k))); rw [hM]; first | (simp only []; rfl) | (simp only []; done) | rfl) trivial

noncomputable def little64_l1_s (x : Int) (x8 : Nat) : (List Int) → (List Int) := fun x3 => x3.set x8 (IntKind.wrap .u8 (ishr .u64 x ((8 * x8 : Nat) : Int)))
noncomputable def little64_l1 (x : Int) : Nat → (List Int)
 | 0 => List.replicate 8 (0 : Int)
 | x8 + 1 => little64_l1_s x x8 (little64_l1 x x8)
noncomputable def little64_v (x : Int) : (List Int) := little64_l1 x 8
noncomputable def little64_m (x : Int) : (List Int) := shut (little64_v x)
theorem little64_e (x : Int) : little64_m x = little64_v x := shut_eq _
@[simp] theorem little64_len (x : Int) : (little64_m x).length = 8 := by
 have key : ∀ i, (little64_l1 x i).length = 8 := by
  intro i
  induction i with
  | zero => rfl
  | succ i ih => exact (List.length_set ..).trans ih
 rw [little64_e]
 exact key 8
noncomputable def c_little64 (x : Int) : Con := ⟨[.v (.int .u64 x)], [], .sk 0, [(0, .sl 5 [.int .u8] (little64_m x))]⟩
set_option maxRecDepth 100000 in
set_option maxHeartbeats 1000000 in
theorem little64_ok (x : Int) : ConOk Tryz.prog 185 (c_little64 x) := by
 refine conOk_of rfl (nb := 0) Tryz.func185 rfl rfl Tryz.ntmps185 rfl rfl rfl fun g0 w0 ac gs ws hg0 hS => ?_
 have hS := hS.sp
 refine s0 [0, 2] [] 0 hS fun ac gs ws hS => ?_
 refine sA [] trivial (fun _ => [(8 : Int) = 8, (0 : Int) ≤ 8, 1 * 8 ≤ 281474976710656, (8 : Int) ≤ 9223372036854775807]) [0, 2, 3] [0] 1 ⟨rfl, by omega, by omega, by omega, trivial⟩ hS fun ac gs ws hS => ?_
 refine wp_seq (sA [(1, .oi 8)] trivial (fun _ => [(((List.replicate 8 (0 : Int)).length : Nat) : Int) = 8]) [0, 2, 3, 7, 8] [0] 1 ⟨by rw [List.length_replicate]; rfl, trivial⟩ hS fun ac gs ws hS => ?_)
 refine wp_block (loop_y (ι := Nat × (List Int)) hg0 hS (fun z_ => match z_ with | (x8, x3) => 8 - x8) (fun z_ => match z_ with | (x8, x3) => [(0, .v (.int .u64 x)), (2, .v (.slice none 0 0)), (3, .sk 0), (7, .v (.int .i64 8)), (8, .v (.int .i64 ((x8 : Nat) : Int)))]) (fun z_ => match z_ with | (x8, x3) => [(0, .sl 5 [.int .u8] x3)]) (fun z_ => match z_ with | (x8, x3) => (x8 ≤ 8) ∧ (x3 = little64_l1 x x8) ∧ (x3.length = 8) ∧ True) 1 (0, List.replicate 8 (0 : Int)) [(0, 0)] ⟨(by omega), rfl, rfl, trivial⟩ ?_)
 rintro ⟨x8, x3⟩ ac gs ws ⟨hx8, hq1, p1, _⟩ hS
 refine s0 [0, 2, 3, 7, 8, 9] [0] 1 hS fun ac gs ws hS => ?_
 refine wp_seq ?_
 refine if_d (((x8 : Nat) : Int) < 8) hS (fun h1 => ?_) (fun h1 => ?_)
 ·refine wp_skip (then_n (wp_seq (wp_block (s0 [0, 2, 3, 4, 7, 8] [0] 1 hS fun ac gs ws hS => ?_))))
  refine rA [(4, .oi ((8 * x8 : Nat) : Int))] trivial (fun _ => [imul .i64 8 ((x8 : Nat) : Int) = ((8 * x8 : Nat) : Int), (0 : Int) ≤ ((8 * x8 : Nat) : Int), (0 : Int) ≤ ((x8 : Nat) : Int) ∧ ((x8 : Nat) : Int) < ((x3.length : Nat) : Int)]) [0, 2, 3, 7, 8] [0] 1 ⟨by rw [imul64 (by omega) (by omega)]; omega, by omega, by omega, trivial⟩ hS fun ac gs ws hS => ?_
  refine block_n (then_n (rA [(0, .oi ((x8 + 1 : Nat) : Int))] trivial (fun _ => [iadd .i64 ((x8 : Nat) : Int) 1 = ((x8 + 1 : Nat) : Int)]) [0, 2, 3, 7, 8] [0] 1 ⟨by rw [iadd64 (by omega) (by omega)]; omega, trivial⟩ hS fun ac gs ws hS => ?_))
  refine then_n ?_
  exact next_y hg0 hS (s := (x8, x3)) (x8 + 1, x3.set x8 (IntKind.wrap .u8 (ishr .u64 x ((8 * x8 : Nat) : Int)))) [(0, 0)] (show 8 - (x8 + 1) < 8 - x8 from by omega) ⟨(by omega), (it_next (F := little64_l1 x) (st := little64_l1_s x) (fun _ => rfl) hq1 rfl), (by rw [List.length_set]; exact p1), trivial⟩
 ·have hScur := hS
  obtain rfl : 8 = x8 := by omega
  obtain rfl : little64_l1 x 8 = x3 := Eq.symm (congrArg (fun z => z) hq1)
  have hS := hScur
  clear hScur
  refine wp_exit (then_exit (then_exit (block_exit (then_n (s0 [2] [0] 1 hS fun ac gs ws hS => ?_)))))
  refine wp_ret ?_
  have hM : little64_m x = little64_l1 x 8 := little64_e x
  exact fin_y rfl (.inr rfl) hS [.sk 0] [(0, some (.sl 5 [.int .u8] (little64_l1 x 8)))] rfl (by show H1Ok _ [(0, .sl 5 [.int .u8] (little64_m x))] true; rw [hM]; first | (simp only []; exact ⟨rfl, trivial⟩) | exact ⟨rfl, trivial⟩)

noncomputable def srev_l1_s (xs : List Int) (k1 : Nat) : (Nat × Nat × (List Int)) → (Nat × Nat × (List Int)) := fun z_ => match z_ with | (x2, x3, x0) => (x2 + 1, x3 - 1, (x0.set x2 (x0.getD x3 0)).set x3 (x0.getD x2 0))
noncomputable def srev_l1 (xs : List Int) : Nat → Nat × Nat × (List Int)
 | 0 => (0, xs.length - 1, xs)
 | k1 + 1 => srev_l1_s xs k1 (srev_l1 xs k1)
def srev_l1_c (xs : List Int) : (Nat × Nat × (List Int)) → Prop := fun z_ => match z_ with | (x2, x3, x0) => ((x2 : Nat) : Int) < ((x3 : Nat) : Int)
noncomputable def srev_v (xs : List Int) : (List Int) := (srev_l1 xs (lst fun j => srev_l1_c xs (srev_l1 xs j))).2.2
noncomputable def srev_m (xs : List Int) : (List Int) := shut (srev_v xs)
theorem srev_e (xs : List Int) : srev_m xs = srev_v xs := shut_eq _
theorem srev_len (xs : List Int) (h : xs.length = 8) : (srev_m xs).length = 8 := by
 have key : ∀ i, (srev_l1 xs i).2.2.length = 8 := by
  intro i
  induction i with
  | zero => exact h
  | succ i ih =>
   show (((srev_l1 xs i).2.2.set _ _).set _ _).length = 8
   rw [List.length_set, List.length_set]; exact ih
 rw [srev_e]
 exact key _
noncomputable def c_srev (xs : List Int) : Con := ⟨[.sk 0], [(0, .sl 5 [.int .u8] xs)], .tu (chain []), [(0, .sl 5 [.int .u8] (srev_m xs))]⟩
set_option maxRecDepth 100000 in
set_option maxHeartbeats 1000000 in
theorem srev_ok (xs : List Int) (h : xs.length = 8) : ConOk Tryz.prog 186 (c_srev xs) := by
 refine conOk_of rfl (nb := 1) Tryz.func186 rfl rfl Tryz.ntmps186 rfl rfl rfl fun g0 w0 ac gs ws hg0 hS => ?_
 have hlenk0 : xs.length ≤ 9223372036854775807 := hS.lens 0 rfl
 have hS := hS.sp
 refine sA [(2, .oi ((xs.length - 1 : Nat) : Int))] trivial (fun _ => [isub .i64 ((xs.length : Nat) : Int) 1 = ((xs.length - 1 : Nat) : Int)]) [0, 2, 3] [0] 1 ⟨by rw [isub64 (by omega) (by omega)]; omega, trivial⟩ hS fun ac gs ws hS => ?_
 refine wp_block (loop_y (ι := Nat × Nat × Nat × (List Int)) hg0 hS (fun z_ => match z_ with | (k1, x2, x3, x0) => x3 - x2) (fun z_ => match z_ with | (k1, x2, x3, x0) => [(0, .sk 0), (2, .v (.int .i64 ((x2 : Nat) : Int))), (3, .v (.int .i64 ((x3 : Nat) : Int)))]) (fun z_ => match z_ with | (k1, x2, x3, x0) => [(0, .sl 5 [.int .u8] x0)]) (fun z_ => match z_ with | (k1, x2, x3, x0) => ((x2, x3, x0) = srev_l1 xs k1) ∧ (∀ j, j < k1 → srev_l1_c xs (srev_l1 xs j)) ∧ (x0.length = 8) ∧ (x3 < 8) ∧ True) 1 (0, 0, xs.length - 1, xs) [(0, 0)] ⟨rfl, (fun j h => absurd h (Nat.not_lt_zero j)), h, (by omega), trivial⟩ ?_)
 rintro ⟨k1, x2, x3, x0⟩ ac gs ws ⟨hq1, hj1, p1, p2, _⟩ hS
 refine wp_seq (s0 [0, 2, 3, 9] [0] 1 hS fun ac gs ws hS => ?_)
 refine if_d (((x2 : Nat) : Int) < ((x3 : Nat) : Int)) hS (fun h1 => ?_) (fun h1 => ?_)
 ·refine wp_skip (then_n (wp_seq (wp_block ?_)))
  have hsl : (x0.set x2 (x0.getD x3 0)).length = 8 := by rw [List.length_set]; exact p1
  refine rA [] trivial (fun _ => [(0 : Int) ≤ ((x3 : Nat) : Int) ∧ ((x3 : Nat) : Int) < ((x0.length : Nat) : Int), (0 : Int) ≤ ((x2 : Nat) : Int) ∧ ((x2 : Nat) : Int) < ((x0.length : Nat) : Int), (0 : Int) ≤ ((x2 : Nat) : Int) ∧ ((x2 : Nat) : Int) < ((x0.length : Nat) : Int), (0 : Int) ≤ ((x3 : Nat) : Int) ∧ ((x3 : Nat) : Int) < (((x0.set x2 (x0.getD x3 0)).length : Nat) : Int)]) [0, 2, 3] [0] 1 ⟨by omega, by omega, by omega, by omega, trivial⟩ hS fun ac gs ws hS => ?_
  refine block_n (then_n (rA [(1, .oi ((x2 + 1 : Nat) : Int)), (3, .oi ((x3 - 1 : Nat) : Int))] trivial (fun _ => [iadd .i64 ((x2 : Nat) : Int) 1 = ((x2 + 1 : Nat) : Int), isub .i64 ((x3 : Nat) : Int) 1 = ((x3 - 1 : Nat) : Int)]) [0, 2, 3] [0] 1 ⟨by rw [iadd64 (by omega) (by omega)]; omega, by rw [isub64 (by omega) (by omega)]; omega, trivial⟩ hS fun ac gs ws hS => ?_))
  refine then_n ?_
  exact next_y hg0 hS (s := (k1, x2, x3, x0)) (k1 + 1, x2 + 1, x3 - 1, (x0.set x2 (x0.getD x3 0)).set x3 (x0.getD x2 0)) [(0, 0)] (show (x3 - 1) - (x2 + 1) < x3 - x2 from by omega) ⟨(it_next (F := srev_l1 xs) (st := srev_l1_s xs) (fun _ => rfl) hq1 rfl), (lst_next hj1 (by rw [← hq1]; exact h1)), (by rw [List.length_set, List.length_set]; exact p1), (by omega), trivial⟩
 ·have hScur := hS
  obtain rfl := lst_eq (P := fun j => srev_l1_c xs (srev_l1 xs j)) (by rw [← hq1]; first | exact h1 | exact not_not_intro h1) hj1
  obtain rfl : (srev_l1 xs (lst fun j => srev_l1_c xs (srev_l1 xs j))).1 = x2 := Eq.symm (congrArg (fun z => z.1) hq1)
  obtain rfl : (srev_l1 xs (lst fun j => srev_l1_c xs (srev_l1 xs j))).2.1 = x3 := Eq.symm (congrArg (fun z => z.2.1) hq1)
  obtain rfl : (srev_l1 xs (lst fun j => srev_l1_c xs (srev_l1 xs j))).2.2 = x0 := Eq.symm (congrArg (fun z => z.2.2) hq1)
  have hS := hScur
  clear hScur
  refine wp_exit (then_exit (then_exit (block_exit ?_)))
  have hM : srev_m xs = (srev_l1 xs (lst fun j => srev_l1_c xs (srev_l1 xs j))).2.2 := srev_e xs
  exact fin_y rfl (.inl rfl) hS [] [(0, some (.sl 5 [.int .u8] ((srev_l1 xs (lst fun j => srev_l1_c xs (srev_l1 xs j))).2.2)))] rfl (by show H1Ok _ [(0, .sl 5 [.int .u8] (srev_m xs))] true; rw [hM]; first | (simp only []; exact ⟨rfl, trivial⟩) | exact ⟨rfl, trivial⟩)

noncomputable def put64_v (x : Int) : (List Int) := srev_m (little64_m x)
noncomputable def put64_m (x : Int) : (List Int) := shut (put64_v x)
theorem put64_e (x : Int) : put64_m x = put64_v x := shut_eq _
@[simp] theorem put64_len (x : Int) : (put64_m x).length = 8 := by rw [put64_e]; exact srev_len _ (little64_len _)
noncomputable def c_put64 (x : Int) : Con := ⟨[.v (.int .u64 x)], [], .ls false [.int .u8] (put64_m x), []⟩
set_option maxRecDepth 100000 in
set_option maxHeartbeats 1000000 in
theorem put64_ok (x : Int) : ConOk Tryz.prog 160 (c_put64 x) := by
 refine conOk_of rfl (nb := 0) Tryz.func160 rfl rfl Tryz.ntmps160 rfl rfl rfl fun g0 w0 ac gs ws hg0 hS => ?_
 have hS := hS.sp
 refine s0 [0, 2] [] 0 hS fun ac gs ws hS => ?_
 refine sA [(1, .call ⟨185, (c_little64 x), [], [(0, 0)]⟩)] ⟨little64_ok x, trivial⟩ (fun C => [ndC C 1]) [2, 3] [0] 1 ⟨rfl, trivial⟩ hS fun ac gs ws hS => ?_
 refine sA [(1, .call ⟨186, (c_srev (little64_m x)), [(0, 0)], []⟩)] ⟨srev_ok (little64_m x) (by first | omega | simp), trivial⟩ (fun C => [ndC C 1]) [2, 3] [0] 1 ⟨rfl, trivial⟩ hS fun ac gs ws hS => ?_
 refine s0 [2] [0] 1 hS fun ac gs ws hS => ?_
 refine wp_ret ?_
 have hM : put64_m x = srev_m (little64_m x) := put64_e x
 obtain ⟨gs, hS⟩ := hS.fz 0
 exact fin_y rfl (.inr rfl) hS [.ls false [.int .u8] (srev_m (little64_m x))] [] (by show weak _ (.ls false [.int .u8] (put64_m x)) = (.ls false [.int .u8] (put64_m x)); rw [hM]; first | (simp only []; rfl) | (simp only []; done) | rfl) trivial

noncomputable def put32_v (x : Int) : (List Int) := (put64_m (IntKind.wrap .u64 x)).drop 4
noncomputable def put32_m (x : Int) : (List Int) := shut (put32_v x)
theorem put32_e (x : Int) : put32_m x = put32_v x := shut_eq _
@[simp] theorem put32_len (x : Int) : (put32_m x).length = 4 := by rw [put32_e]; unfold put32_v; rw [List.length_drop, put64_len]
noncomputable def c_put32 (x : Int) : Con := ⟨[.v (.int .u32 x)], [], .ls false [.int .u8] (put32_m x), []⟩
set_option maxRecDepth 100000 in
set_option maxHeartbeats 1000000 in
theorem put32_ok (x : Int) : ConOk Tryz.prog 165 (c_put32 x) := by
 refine conOk_of rfl (nb := 0) Tryz.func165 rfl rfl Tryz.ntmps165 rfl rfl rfl fun g0 w0 ac gs ws hg0 hS => ?_
 have hS := hS.sp
 refine s0 [0, 2] [] 0 hS fun ac gs ws hS => ?_
 refine wp_seq ?_
 have hp := put64_len (IntKind.wrap .u64 x)
 refine rA [(2, .call ⟨160, (c_put64 (IntKind.wrap .u64 x)), [], []⟩)] ⟨put64_ok (IntKind.wrap .u64 x), trivial⟩ (fun C => [ndC C 2, bndP (some 4) none none (put64_m (IntKind.wrap .u64 x)).length (put64_m (IntKind.wrap .u64 x)).length]) [2] [] 0 ⟨rfl, ⟨by simp only [nnI] <;> omega, by simp only [nnI] <;> omega, by simp only [nnI] <;> omega, by simp, by simp only [bl] <;> omega, by simp only [bl] <;> omega, by simp only [bl] <;> omega⟩, trivial⟩ hS fun ac gs ws hS => ?_
 refine then_n (wp_ret ?_)
 have hM : put32_m x = (put64_m (IntKind.wrap .u64 x)).drop 4 := put32_e x
 exact fin_y rfl (.inr rfl) hS [.ls false [.int .u8] ((put64_m (IntKind.wrap .u64 x)).drop 4)] [] (by show weak _ (.ls false [.int .u8] (put32_m x)) = (.ls false [.int .u8] (put32_m x)); rw [hM]; first | (simp only []; rfl) | (simp only []; done) | rfl) trivial

noncomputable def get64_l1_s (xs : List Int) (x4 : Nat) : Int → Int := fun x2 => if ((x4 : Nat) : Int) < ((xs.length : Nat) : Int) then (ior .u64 (ishl .u64 x2 8) (IntKind.wrap .u64 (xs.getD x4 0))) else (ishl .u64 x2 8)
noncomputable def get64_l1 (xs : List Int) : Nat → Int
 | 0 => 0
 | x4 + 1 => get64_l1_s xs x4 (get64_l1 xs x4)
noncomputable def get64_v (xs : List Int) : Int := (get64_l1 xs 8)
noncomputable def get64_m (xs : List Int) : Int := shut (get64_v xs)
theorem get64_e (xs : List Int) : get64_m xs = get64_v xs := shut_eq _
noncomputable def c_get64 (xs : List Int) : Con := ⟨[.ls false [.int .u8] xs], [], .v (.int .u64 (get64_m xs)), []⟩
set_option maxRecDepth 100000 in
set_option maxHeartbeats 1000000 in
theorem get64_ok (xs : List Int) : ConOk Tryz.prog 206 (c_get64 xs) := by
 refine conOk_of rfl (nb := 0) Tryz.func206 rfl rfl Tryz.ntmps206 rfl rfl rfl fun g0 w0 ac gs ws hg0 hS => ?_
 have hlen0 : xs.length ≤ 9223372036854775807 := hS.len 0 rfl
 have hS := hS.sp
 refine s0 [0, 2] [] 0 hS fun ac gs ws hS => ?_
 refine wp_seq (s0 [0, 2, 4] [] 0 hS fun ac gs ws hS => ?_)
 refine wp_block (loop_y (ι := Nat × Int) hg0 hS (fun z_ => match z_ with | (x4, x2) => 8 - x4) (fun z_ => match z_ with | (x4, x2) => [(0, .ls false [.int .u8] xs), (2, .v (.int .u64 x2)), (4, .v (.int .i64 ((x4 : Nat) : Int)))]) (fun z_ => match z_ with | (x4, x2) => []) (fun z_ => match z_ with | (x4, x2) => (x4 ≤ 8) ∧ (x2 = get64_l1 xs x4) ∧ True) 0 (0, 0) [] ⟨(by omega), rfl, trivial⟩ ?_)
 rintro ⟨x4, x2⟩ ac gs ws ⟨hx4, hq1, _⟩ hS
 refine s0 [0, 2, 4, 5] [] 0 hS fun ac gs ws hS => ?_
 refine wp_seq ?_
 refine if_d (((x4 : Nat) : Int) < 8) hS (fun h1 => ?_) (fun h1 => ?_)
 ·refine wp_skip (then_n (wp_seq (wp_block (s0 [0, 2, 3, 4] [] 0 hS fun ac gs ws hS => ?_))))
  refine sA [] trivial (fun _ => [(0 : Int) ≤ 8]) [0, 2, 3, 4] [] 0 ⟨by omega, trivial⟩ hS fun ac gs ws hS => ?_
  refine s0 [0, 2, 3, 4, 12] [] 0 hS fun ac gs ws hS => ?_
  refine if_d (((x4 : Nat) : Int) < ((xs.length : Nat) : Int)) hS (fun h2 => ?_) (fun h2 => ?_)
  ·refine rA [] trivial (fun _ => [(0 : Int) ≤ ((x4 : Nat) : Int) ∧ ((x4 : Nat) : Int) < ((xs.length : Nat) : Int)]) [0, 2, 4] [] 0 ⟨by omega, trivial⟩ hS fun ac gs ws hS => ?_
   refine block_n (then_n (rA [(0, .oi ((x4 + 1 : Nat) : Int))] trivial (fun _ => [iadd .i64 ((x4 : Nat) : Int) 1 = ((x4 + 1 : Nat) : Int)]) [0, 2, 4] [] 0 ⟨by rw [iadd64 (by omega) (by omega)]; omega, trivial⟩ hS fun ac gs ws hS => ?_))
   refine then_n ?_
   exact next_y hg0 hS (s := (x4, x2)) (x4 + 1, (ior .u64 (ishl .u64 x2 8) (IntKind.wrap .u64 (xs.getD x4 0)))) [] (show 8 - (x4 + 1) < 8 - x4 from by omega) ⟨(by omega), (it_next (F := get64_l1 xs) (st := get64_l1_s xs) (fun _ => rfl) hq1 (Eq.symm (if_pos h2))), trivial⟩
  ·refine wp_skip (block_n (then_n (rA [(0, .oi ((x4 + 1 : Nat) : Int))] trivial (fun _ => [iadd .i64 ((x4 : Nat) : Int) 1 = ((x4 + 1 : Nat) : Int)]) [0, 2, 4] [] 0 ⟨by rw [iadd64 (by omega) (by omega)]; omega, trivial⟩ hS fun ac gs ws hS => ?_)))
   refine then_n ?_
   exact next_y hg0 hS (s := (x4, x2)) (x4 + 1, (ishl .u64 x2 8)) [] (show 8 - (x4 + 1) < 8 - x4 from by omega) ⟨(by omega), (it_next (F := get64_l1 xs) (st := get64_l1_s xs) (fun _ => rfl) hq1 (Eq.symm (if_neg h2))), trivial⟩
 ·have hScur := hS
  obtain rfl : 8 = x4 := by omega
  obtain rfl : get64_l1 xs 8 = x2 := Eq.symm (congrArg (fun z => z) hq1)
  have hS := hScur
  clear hScur
  refine wp_exit (then_exit (then_exit (block_exit (then_n (s0 [2] [] 0 hS fun ac gs ws hS => ?_)))))
  refine wp_ret ?_
  have hM : get64_m xs = (get64_l1 xs 8) := get64_e xs
  exact fin_y rfl (.inr rfl) hS [.v (.int .u64 (get64_l1 xs 8))] [] (by show weak _ (.v (.int .u64 (get64_m xs))) = (.v (.int .u64 (get64_m xs))); rw [hM]; first | (simp only []; rfl) | (simp only []; done) | rfl) trivial

noncomputable def get32_v (xs : List Int) : Int := (IntKind.wrap .u32 (ishr .u64 (get64_m xs) 32))
noncomputable def get32_m (xs : List Int) : Int := shut (get32_v xs)
theorem get32_e (xs : List Int) : get32_m xs = get32_v xs := shut_eq _
noncomputable def c_get32 (xs : List Int) : Con := ⟨[.ls false [.int .u8] xs], [], .v (.int .u32 (get32_m xs)), []⟩
set_option maxRecDepth 100000 in
set_option maxHeartbeats 1000000 in
theorem get32_ok (xs : List Int) : ConOk Tryz.prog 190 (c_get32 xs) := by
 refine conOk_of rfl (nb := 0) Tryz.func190 rfl rfl Tryz.ntmps190 rfl rfl rfl fun g0 w0 ac gs ws hg0 hS => ?_
 have hlen0 : xs.length ≤ 9223372036854775807 := hS.len 0 rfl
 have hS := hS.sp
 refine s0 [0, 2] [] 0 hS fun ac gs ws hS => ?_
 refine sA [(1, .call ⟨206, (c_get64 xs), [], []⟩)] ⟨get64_ok xs, trivial⟩ (fun C => [ndC C 1, (0 : Int) ≤ 32]) [2] [] 0 ⟨rfl, by omega, trivial⟩ hS fun ac gs ws hS => ?_
 refine wp_ret ?_
 have hM : get32_m xs = (IntKind.wrap .u32 (ishr .u64 (get64_m xs) 32)) := get32_e xs
 exact fin_y rfl (.inr rfl) hS [.v (.int .u32 (IntKind.wrap .u32 (ishr .u64 (get64_m xs) 32)))] [] (by show weak _ (.v (.int .u32 (get32_m xs))) = (.v (.int .u32 (get32_m xs))); rw [hM]; first | (simp only []; rfl) | (simp only []; done) | rfl) trivial

noncomputable def first_v (xs : List Int) (n : Nat) : (List Int) := xs.take (List.replicate n (0 : Int)).length ++ (List.replicate n (0 : Int)).drop xs.length
noncomputable def first_m (xs : List Int) (n : Nat) : (List Int) := shut (first_v xs n)
theorem first_e (xs : List Int) (n : Nat) : first_m xs n = first_v xs n := shut_eq _
noncomputable def c_first (xs : List Int) (n : Nat) : Con := ⟨[.ls false [.int .u8] xs, .v (.int .i64 ((n : Nat) : Int))], [], .sk 0, [(0, .sl 5 [.int .u8] (first_m xs n))]⟩
set_option maxRecDepth 100000 in
set_option maxHeartbeats 1000000 in
theorem first_ok (xs : List Int) (n : Nat) (hn : n ≤ 100000000) : ConOk Tryz.prog 184 (c_first xs n) := by
 refine conOk_of rfl (nb := 0) Tryz.func184 rfl rfl Tryz.ntmps184 rfl rfl rfl fun g0 w0 ac gs ws hg0 hS => ?_
 have hlen0 : xs.length ≤ 9223372036854775807 := hS.len 0 rfl
 have hS := hS.sp
 refine s0 [0, 1, 4] [] 0 hS fun ac gs ws hS => ?_
 refine sA [] trivial (fun _ => [(((n : Nat) : Int) : Int) = ((n : Nat) : Int), (0 : Int) ≤ ((n : Nat) : Int), 1 * n ≤ 281474976710656, (((n : Nat) : Int) : Int) ≤ 9223372036854775807]) [0, 4, 5] [0] 1 ⟨rfl, by omega, by omega, by omega, trivial⟩ hS fun ac gs ws hS => ?_
 refine s0 [4, 5] [0] 1 hS fun ac gs ws hS => ?_
 refine s0 [4] [0] 1 hS fun ac gs ws hS => ?_
 refine wp_ret ?_
 have hM : first_m xs n = xs.take (List.replicate n (0 : Int)).length ++ (List.replicate n (0 : Int)).drop xs.length := first_e xs n
 exact fin_y rfl (.inr rfl) hS [.sk 0] [(0, some (.sl 5 [.int .u8] (xs.take (List.replicate n (0 : Int)).length ++ (List.replicate n (0 : Int)).drop xs.length)))] rfl (by show H1Ok _ [(0, .sl 5 [.int .u8] (first_m xs n))] true; rw [hM]; first | (simp only []; exact ⟨rfl, trivial⟩) | exact ⟨rfl, trivial⟩)

noncomputable def xor_l1_s (xs ys : List Int) (x15 : Nat) : (List Int) → (List Int) := fun x5 => x5.set x15 (ixor .u8 (xs.getD x15 0) (ys.getD x15 0))
noncomputable def xor_l1 (xs ys : List Int) : Nat → (List Int)
 | 0 => List.replicate (min xs.length ys.length) (0 : Int)
 | x15 + 1 => xor_l1_s xs ys x15 (xor_l1 xs ys x15)
noncomputable def xor_v (xs ys : List Int) : (List Int) := xor_l1 xs ys (min xs.length ys.length)
noncomputable def xor_m (xs ys : List Int) : (List Int) := shut (xor_v xs ys)
theorem xor_e (xs ys : List Int) : xor_m xs ys = xor_v xs ys := shut_eq _
noncomputable def c_xor (xs ys : List Int) : Con := ⟨[.ls false [.int .u8] xs, .ls false [.int .u8] ys], [], .sk 0, [(0, .sl 5 [.int .u8] (xor_m xs ys))]⟩
set_option maxRecDepth 100000 in
set_option maxHeartbeats 1000000 in
theorem xor_ok (xs ys : List Int) (hn : xs.length ≤ 100000000) : ConOk Tryz.prog 159 (c_xor xs ys) := by
 refine conOk_of rfl (nb := 0) Tryz.func159 rfl rfl Tryz.ntmps159 rfl rfl rfl fun g0 w0 ac gs ws hg0 hS => ?_
 have hlen0 : xs.length ≤ 9223372036854775807 := hS.len 0 rfl
 have hlen1 : ys.length ≤ 9223372036854775807 := hS.len 1 rfl
 have hS := hS.sp
 refine s0 [0, 1, 4] [] 0 hS fun ac gs ws hS => ?_
 refine sA [(4, .oi ((min xs.length ys.length : Nat) : Int))] trivial (fun _ => [(if ((ys.length : Nat) : Int) < ((xs.length : Nat) : Int) then ((ys.length : Nat) : Int) else ((xs.length : Nat) : Int)) = ((min xs.length ys.length : Nat) : Int), (((min xs.length ys.length : Nat) : Int) : Int) = ((min xs.length ys.length : Nat) : Int), (0 : Int) ≤ ((min xs.length ys.length : Nat) : Int), 1 * (min xs.length ys.length) ≤ 281474976710656, (((min xs.length ys.length : Nat) : Int) : Int) ≤ 9223372036854775807]) [0, 1, 4, 5] [0] 1 ⟨by split <;> omega, rfl, by omega, by omega, by omega, trivial⟩ hS fun ac gs ws hS => ?_
 refine wp_seq (sA [(1, .oi ((min xs.length ys.length : Nat) : Int))] trivial (fun _ => [(((List.replicate (min xs.length ys.length) (0 : Int)).length : Nat) : Int) = ((min xs.length ys.length : Nat) : Int)]) [0, 1, 4, 5, 14, 15] [0] 1 ⟨by rw [List.length_replicate], trivial⟩ hS fun ac gs ws hS => ?_)
 refine wp_block (loop_y (ι := Nat × (List Int)) hg0 hS (fun z_ => match z_ with | (x15, x5) => min xs.length ys.length - x15) (fun z_ => match z_ with | (x15, x5) => [(0, .ls false [.int .u8] xs), (1, .ls false [.int .u8] ys), (4, .v (.slice none 0 0)), (5, .sk 0), (14, .v (.int .i64 ((min xs.length ys.length : Nat) : Int))), (15, .v (.int .i64 ((x15 : Nat) : Int)))]) (fun z_ => match z_ with | (x15, x5) => [(0, .sl 5 [.int .u8] x5)]) (fun z_ => match z_ with | (x15, x5) => (x15 ≤ min xs.length ys.length) ∧ (x5 = xor_l1 xs ys x15) ∧ (x5.length = min xs.length ys.length) ∧ True) 1 (0, List.replicate (min xs.length ys.length) (0 : Int)) [(0, 0)] ⟨(by omega), rfl, (by simp), trivial⟩ ?_)
 rintro ⟨x15, x5⟩ ac gs ws ⟨hx15, hq1, p1, _⟩ hS
 refine s0 [0, 1, 4, 5, 14, 15, 16] [0] 1 hS fun ac gs ws hS => ?_
 refine wp_seq ?_
 refine if_d (((x15 : Nat) : Int) < ((min xs.length ys.length : Nat) : Int)) hS (fun h1 => ?_) (fun h1 => ?_)
 ·refine wp_skip (then_n (wp_seq (wp_block (s0 [0, 1, 4, 5, 6, 14, 15] [0] 1 hS fun ac gs ws hS => ?_))))
  refine rA [] trivial (fun _ => [(0 : Int) ≤ ((x15 : Nat) : Int) ∧ ((x15 : Nat) : Int) < ((xs.length : Nat) : Int), (0 : Int) ≤ ((x15 : Nat) : Int) ∧ ((x15 : Nat) : Int) < ((ys.length : Nat) : Int), (0 : Int) ≤ ((x15 : Nat) : Int) ∧ ((x15 : Nat) : Int) < ((x5.length : Nat) : Int)]) [0, 1, 4, 5, 14, 15] [0] 1 ⟨by omega, by omega, by omega, trivial⟩ hS fun ac gs ws hS => ?_
  refine block_n (then_n (rA [(0, .oi ((x15 + 1 : Nat) : Int))] trivial (fun _ => [iadd .i64 ((x15 : Nat) : Int) 1 = ((x15 + 1 : Nat) : Int)]) [0, 1, 4, 5, 14, 15] [0] 1 ⟨by rw [iadd64 (by omega) (by omega)]; omega, trivial⟩ hS fun ac gs ws hS => ?_))
  refine then_n ?_
  exact next_y hg0 hS (s := (x15, x5)) (x15 + 1, x5.set x15 (ixor .u8 (xs.getD x15 0) (ys.getD x15 0))) [(0, 0)] (show min xs.length ys.length - (x15 + 1) < min xs.length ys.length - x15 from by omega) ⟨(by omega), (it_next (F := xor_l1 xs ys) (st := xor_l1_s xs ys) (fun _ => rfl) hq1 rfl), (by rw [List.length_set]; exact p1), trivial⟩
 ·have hScur := hS
  obtain rfl : min xs.length ys.length = x15 := by omega
  obtain rfl : xor_l1 xs ys (min xs.length ys.length) = x5 := Eq.symm (congrArg (fun z => z) hq1)
  have hS := hScur
  clear hScur
  refine wp_exit (then_exit (then_exit (block_exit (then_n (s0 [4] [0] 1 hS fun ac gs ws hS => ?_)))))
  refine wp_ret ?_
  have hM : xor_m xs ys = xor_l1 xs ys (min xs.length ys.length) := xor_e xs ys
  exact fin_y rfl (.inr rfl) hS [.sk 0] [(0, some (.sl 5 [.int .u8] (xor_l1 xs ys (min xs.length ys.length))))] rfl (by show H1Ok _ [(0, .sl 5 [.int .u8] (xor_m xs ys))] true; rw [hM]; first | (simp only []; exact ⟨rfl, trivial⟩) | exact ⟨rfl, trivial⟩)

end Go.Sx.Tryz
namespace Go.Sx.Tryz
open Go.Mi Go.RowKit Go.Sx Go.Proofs
noncomputable def c_clonek (xs : List Int) : Con := ⟨[.ls false [.int .u8] xs], [], .sk 0, [(0, .sl 5 [.int .u8] xs)]⟩
set_option maxRecDepth 100000 in
set_option maxHeartbeats 1000000 in
theorem clonek_ok (xs : List Int) (h : xs.length ≤ 100000000000000) : ConOk Tryz.prog 81 (c_clonek xs) := by
 refine conOk_of rfl (nb := 0) Tryz.func81 rfl rfl Tryz.ntmps81 rfl rfl rfl fun g0 w0 ac gs ws hg0 hS => ?_
 have hlen0 : xs.length ≤ 9223372036854775807 := hS.len 0 rfl
 have hS := hS.sp
 refine s0 [0, 2] [] 0 hS fun ac gs ws hS => ?_
 refine wp_seq (wp_seq ?_)
 rcases hS.nilor 0 [.int .u8] xs with ⟨hn1, hS⟩ | hS
 ·subst hn1
  refine r0 [0, 2, 4] [] 0 hS fun ac gs ws hS => ?_
  refine then_n (cond_t hS ?_)
  refine s0 [0, 2] [] 0 hS fun ac gs ws hS => ?_
  refine wp_ret (then_ret ?_)
  obtain ⟨gs, hS⟩ := hS.nilk 2 5 [.int .u8]
  exact fin_y rfl (.inr rfl) hS [.sk 0] [(0, some (.sl 5 [.int .u8] []))] rfl ⟨rfl, trivial⟩
 ·refine r0 [0, 2, 4] [] 0 hS fun ac gs ws hS => ?_
  refine then_n (cond_f hS ?_)
  refine wp_skip (then_n (sA [(0, .own)] trivial (fun _ => [([] : List (RT [.int .u8])).length + xs.length ≤ 9223372036854775807, (([] : List (RT [.int .u8])).length + xs.length) * 1 ≤ 140737488355328]) [2] [1] 2 ⟨by simp <;> omega, by simp <;> omega, trivial⟩ hS fun ac gs ws hS => ?_))
  refine wp_ret ?_
  obtain ⟨gs, hS⟩ := hS.rn [(0, 1)] [(2, .sk 0)] [(0, .sl 5 [.int .u8] ([] ++ xs))] 1 hg0
  exact fin_y rfl (.inr rfl) hS [.sk 0] [(0, some (.sl 5 [.int .u8] ([] ++ xs)))] rfl ⟨rfl, trivial⟩

noncomputable def sstart_v : (Nat → Int) := upd (upd (upd (upd (upd (upd (upd (upd (fun _ => 0) 0 7640891576956012808) 1 13503953896175478587) 2 4354685564936845355) 3 11912009170470909681) 4 5840696475078001361) 5 11170449401992604703) 6 2270897969802886507) 7 6620516959819538809
noncomputable def sstart_m : (Nat → Int) := shut (sstart_v)
theorem sstart_e : sstart_m = sstart_v := shut_eq _
noncomputable def c_sstart : Con := ⟨[], [], .ar .u64 8 sstart_m, []⟩
set_option maxRecDepth 100000 in
set_option maxHeartbeats 1000000 in
theorem sstart_ok : ConOk Tryz.prog 188 (c_sstart) := by
 refine conOk_of rfl (nb := 0) Tryz.func188 rfl rfl Tryz.ntmps188 rfl rfl rfl fun g0 w0 ac gs ws hg0 hS => ?_
 have hS := hS.sp
 refine s0 [0] [0] 1 hS fun ac gs ws hS => ?_
 refine s0 [0] [0] 1 hS fun ac gs ws hS => ?_
 refine wp_ret ?_
 have hM : sstart_m = upd (upd (upd (upd (upd (upd (upd (upd (fun _ => 0) 0 7640891576956012808) 1 13503953896175478587) 2 4354685564936845355) 3 11912009170470909681) 4 5840696475078001361) 5 11170449401992604703) 6 2270897969802886507) 7 6620516959819538809 := sstart_e
 exact fin_y rfl (.inr rfl) hS [.ar .u64 8 (upd (upd (upd (upd (upd (upd (upd (upd (fun _ => 0) 0 7640891576956012808) 1 13503953896175478587) 2 4354685564936845355) 3 11912009170470909681) 4 5840696475078001361) 5 11170449401992604703) 6 2270897969802886507) 7 6620516959819538809)] [] (by show weak _ (.ar .u64 8 sstart_m) = (.ar .u64 8 sstart_m); rw [hM]; first | (simp only []; rfl) | (simp only []; done) | rfl) trivial

noncomputable def srounds_v : (Nat → Int) := upd (upd (upd (upd (upd (upd (upd (upd (upd (upd (upd (upd (upd (upd (upd (upd (upd (upd (upd (upd (upd (upd (upd (upd (upd (upd (upd (upd (upd (upd (upd (upd (upd (upd (upd (upd (upd (upd (upd (upd (upd (upd (upd (upd (upd (upd (upd (upd (upd (upd (upd (upd (upd (upd (upd (upd (upd (upd (upd (upd (upd (upd (upd (upd (upd (upd (upd (upd (upd (upd (upd (upd (upd (upd (upd (upd (upd (upd (upd (upd (fun _ => 0) 0 4794697086780616226) 1 8158064640168781261) 2 13096744586834688815) 3 16840607885511220156) 4 4131703408338449720) 5 6480981068601479193) 6 10538285296894168987) 7 12329834152419229976) 8 15566598209576043074) 9 1334009975649890238) 10 2608012711638119052) 11 6128411473006802146) 12 8268148722764581231) 13 9286055187155687089) 14 11230858885718282805) 15 13951009754708518548) 16 16472876342353939154) 17 17275323862435702243) 18 1135362057144423861) 19 2597628984639134821) 20 3308224258029322869) 21 5365058923640841347) 22 6679025012923562964) 23 8573033837759648693) 24 10970295158949994411) 25 12119686244451234320) 26 12683024718118986047) 27 13788192230050041572) 28 14330467153632333762) 29 15395433587784984357) 30 489312712824947311) 31 1452737877330783856) 32 2861767655752347644) 33 3322285676063803686) 34 5560940570517711597) 35 5996557281743188959) 36 7280758554555802590) 37 8532644243296465576) 38 9350256976987008742) 39 10552545826968843579) 40 11727347734174303076) 41 12113106623233404929) 42 14000437183269869457) 43 14369950271660146224) 44 15101387698204529176) 45 15463397548674623760) 46 17586052441742319658) 47 1182934255886127544) 48 1847814050463011016) 49 2177327727835720531) 50 2830643537854262169) 51 3796741975233480872) 52 4115178125766777443) 53 5681478168544905931) 54 6601373596472566643) 55 7507060721942968483) 56 8399075790359081724) 57 8693463985226723168) 58 9568029438360202098) 59 10144078919501101548) 60 10430055236837252648) 61 11840083180663258601) 62 13761210420658862357) 63 14299343276471374635) 64 14566680578165727644) 65 15097957966210449927) 66 16922976911328602910) 67 17689382322260857208) 68 500013540394364858) 69 748580250866718886) 70 1242879168328830382) 71 1977374033974150939) 72 2944078676154940804) 73 3659926193048069267) 74 4368137639120453308) 75 4836135668995329356) 76 5532061633213252278) 77 6448918945643986474) 78 6902733635092675308) 79 7801388544844847127
noncomputable def srounds_m : (Nat → Int) := shut (srounds_v)
theorem srounds_e : srounds_m = srounds_v := shut_eq _
noncomputable def c_srounds : Con := ⟨[], [], .ar .u64 80 srounds_m, []⟩
set_option maxRecDepth 100000 in
set_option maxHeartbeats 1000000 in
theorem srounds_ok : ConOk Tryz.prog 189 (c_srounds) := by
 refine conOk_of rfl (nb := 0) Tryz.func189 rfl rfl Tryz.ntmps189 rfl rfl rfl fun g0 w0 ac gs ws hg0 hS => ?_
 have hS := hS.sp
 refine s0 [0] [0] 1 hS fun ac gs ws hS => ?_
 refine s0 [0] [0] 1 hS fun ac gs ws hS => ?_
 refine wp_ret ?_
 have hM : srounds_m = upd (upd (upd (upd (upd (upd (upd (upd (upd (upd (upd (upd (upd (upd (upd (upd (upd (upd (upd (upd (upd (upd (upd (upd (upd (upd (upd (upd (upd (upd (upd (upd (upd (upd (upd (upd (upd (upd (upd (upd (upd (upd (upd (upd (upd (upd (upd (upd (upd (upd (upd (upd (upd (upd (upd (upd (upd (upd (upd (upd (upd (upd (upd (upd (upd (upd (upd (upd (upd (upd (upd (upd (upd (upd (upd (upd (upd (upd (upd (upd (fun _ => 0) 0 4794697086780616226) 1 8158064640168781261) 2 13096744586834688815) 3 16840607885511220156) 4 4131703408338449720) 5 6480981068601479193) 6 10538285296894168987) 7 12329834152419229976) 8 15566598209576043074) 9 1334009975649890238) 10 2608012711638119052) 11 6128411473006802146) 12 8268148722764581231) 13 9286055187155687089) 14 11230858885718282805) 15 13951009754708518548) 16 16472876342353939154) 17 17275323862435702243) 18 1135362057144423861) 19 2597628984639134821) 20 3308224258029322869) 21 5365058923640841347) 22 6679025012923562964) 23 8573033837759648693) 24 10970295158949994411) 25 12119686244451234320) 26 12683024718118986047) 27 13788192230050041572) 28 14330467153632333762) 29 15395433587784984357) 30 489312712824947311) 31 1452737877330783856) 32 2861767655752347644) 33 3322285676063803686) 34 5560940570517711597) 35 5996557281743188959) 36 7280758554555802590) 37 8532644243296465576) 38 9350256976987008742) 39 10552545826968843579) 40 11727347734174303076) 41 12113106623233404929) 42 14000437183269869457) 43 14369950271660146224) 44 15101387698204529176) 45 15463397548674623760) 46 17586052441742319658) 47 1182934255886127544) 48 1847814050463011016) 49 2177327727835720531) 50 2830643537854262169) 51 3796741975233480872) 52 4115178125766777443) 53 5681478168544905931) 54 6601373596472566643) 55 7507060721942968483) 56 8399075790359081724) 57 8693463985226723168) 58 9568029438360202098) 59 10144078919501101548) 60 10430055236837252648) 61 11840083180663258601) 62 13761210420658862357) 63 14299343276471374635) 64 14566680578165727644) 65 15097957966210449927) 66 16922976911328602910) 67 17689382322260857208) 68 500013540394364858) 69 748580250866718886) 70 1242879168328830382) 71 1977374033974150939) 72 2944078676154940804) 73 3659926193048069267) 74 4368137639120453308) 75 4836135668995329356) 76 5532061633213252278) 77 6448918945643986474) 78 6902733635092675308) 79 7801388544844847127 := srounds_e
 exact fin_y rfl (.inr rfl) hS [.ar .u64 80 (upd (upd (upd (upd (upd (upd (upd (upd (upd (upd (upd (upd (upd (upd (upd (upd (upd (upd (upd (upd (upd (upd (upd (upd (upd (upd (upd (upd (upd (upd (upd (upd (upd (upd (upd (upd (upd (upd (upd (upd (upd (upd (upd (upd (upd (upd (upd (upd (upd (upd (upd (upd (upd (upd (upd (upd (upd (upd (upd (upd (upd (upd (upd (upd (upd (upd (upd (upd (upd (upd (upd (upd (upd (upd (upd (upd (upd (upd (upd (upd (fun _ => 0) 0 4794697086780616226) 1 8158064640168781261) 2 13096744586834688815) 3 16840607885511220156) 4 4131703408338449720) 5 6480981068601479193) 6 10538285296894168987) 7 12329834152419229976) 8 15566598209576043074) 9 1334009975649890238) 10 2608012711638119052) 11 6128411473006802146) 12 8268148722764581231) 13 9286055187155687089) 14 11230858885718282805) 15 13951009754708518548) 16 16472876342353939154) 17 17275323862435702243) 18 1135362057144423861) 19 2597628984639134821) 20 3308224258029322869) 21 5365058923640841347) 22 6679025012923562964) 23 8573033837759648693) 24 10970295158949994411) 25 12119686244451234320) 26 12683024718118986047) 27 13788192230050041572) 28 14330467153632333762) 29 15395433587784984357) 30 489312712824947311) 31 1452737877330783856) 32 2861767655752347644) 33 3322285676063803686) 34 5560940570517711597) 35 5996557281743188959) 36 7280758554555802590) 37 8532644243296465576) 38 9350256976987008742) 39 10552545826968843579) 40 11727347734174303076) 41 12113106623233404929) 42 14000437183269869457) 43 14369950271660146224) 44 15101387698204529176) 45 15463397548674623760) 46 17586052441742319658) 47 1182934255886127544) 48 1847814050463011016) 49 2177327727835720531) 50 2830643537854262169) 51 3796741975233480872) 52 4115178125766777443) 53 5681478168544905931) 54 6601373596472566643) 55 7507060721942968483) 56 8399075790359081724) 57 8693463985226723168) 58 9568029438360202098) 59 10144078919501101548) 60 10430055236837252648) 61 11840083180663258601) 62 13761210420658862357) 63 14299343276471374635) 64 14566680578165727644) 65 15097957966210449927) 66 16922976911328602910) 67 17689382322260857208) 68 500013540394364858) 69 748580250866718886) 70 1242879168328830382) 71 1977374033974150939) 72 2944078676154940804) 73 3659926193048069267) 74 4368137639120453308) 75 4836135668995329356) 76 5532061633213252278) 77 6448918945643986474) 78 6902733635092675308) 79 7801388544844847127)] [] (by show weak _ (.ar .u64 80 srounds_m) = (.ar .u64 80 srounds_m); rw [hM]; first | (simp only []; rfl) | (simp only []; done) | rfl) trivial

noncomputable def over_l1_s (h : Nat → Int) (x6 : Nat) : (Nat → Int) → (Nat → Int) := fun o1_0 => upd o1_0 x6 (ixor .u32 (o1_0 x6) (IntKind.wrap .u32 (ishr .u64 (sstart_m x6) 32)))
noncomputable def over_l1 (h : Nat → Int) : Nat → (Nat → Int)
 | 0 => h
 | x6 + 1 => over_l1_s h x6 (over_l1 h x6)
noncomputable def over_v (h : Nat → Int) : (Nat → Int) := over_l1 h 8
noncomputable def over_m (h : Nat → Int) : (Nat → Int) := shut (over_v h)
theorem over_e (h : Nat → Int) : over_m h = over_v h := shut_eq _
noncomputable def c_over (h : Nat → Int) : Con := ⟨[.ar .u32 8 h], [], .ar .u32 8 (over_m h), []⟩
set_option maxRecDepth 100000 in
set_option maxHeartbeats 1000000 in
theorem over_ok (h : Nat → Int) : ConOk Tryz.prog 162 (c_over h) := by
 refine conOk_of rfl (nb := 0) Tryz.func162 rfl rfl Tryz.ntmps162 rfl rfl rfl fun g0 w0 ac gs ws hg0 hS => ?_
 have hS := hS.sp
 refine s0 [1, 2] [0, 1] 2 hS fun ac gs ws hS => ?_
 refine wp_seq (sA [(0, .call ⟨188, (c_sstart), [], []⟩)] ⟨sstart_ok, trivial⟩ (fun C => [ndC C 0]) [1, 2, 5, 6] [0, 1] 2 ⟨rfl, trivial⟩ hS fun ac gs ws hS => ?_)
 refine wp_block (loop_y (ι := Nat × (Nat → Int)) hg0 hS (fun z_ => match z_ with | (x6, o1_0) => 8 - x6) (fun z_ => match z_ with | (x6, o1_0) => [(1, .cp 0 0), (2, .cp 1 0), (5, .ar .u64 8 sstart_m), (6, .v (.int .i64 ((x6 : Nat) : Int)))]) (fun z_ => match z_ with | (x6, o1_0) => [(0, .ob 177 (chain [.ar .u32 8 o1_0])), (1, .ob 177 (chain [.ar .u32 8 (fun _ => 0)]))]) (fun z_ => match z_ with | (x6, o1_0) => (x6 ≤ 8) ∧ (o1_0 = over_l1 h x6) ∧ True) 2 (0, h) [(0, 0), (1, 1)] ⟨(by omega), rfl, trivial⟩ ?_)
 rintro ⟨x6, o1_0⟩ ac gs ws ⟨hx6, hq1, _⟩ hS
 refine s0 [1, 2, 5, 6, 7] [0, 1] 2 hS fun ac gs ws hS => ?_
 refine wp_seq ?_
 refine if_d (((x6 : Nat) : Int) < 8) hS (fun h1 => ?_) (fun h1 => ?_)
 ·refine wp_skip (then_n (wp_seq (wp_block (sA [] trivial (fun _ => [(0 : Int) ≤ ((x6 : Nat) : Int) ∧ (((x6 : Nat) : Int) : Int) < 8]) [1, 2, 3, 4, 5, 6] [0, 1] 2 ⟨by omega, trivial⟩ hS fun ac gs ws hS => ?_))))
  refine rA [] trivial (fun _ => [(0 : Int) ≤ ((x6 : Nat) : Int) ∧ (((x6 : Nat) : Int) : Int) < 8, (0 : Int) ≤ 32, (0 : Int) ≤ ((x6 : Nat) : Int) ∧ (((x6 : Nat) : Int) : Int) < 8]) [1, 2, 5, 6] [0, 1] 2 ⟨by omega, by omega, by omega, trivial⟩ hS fun ac gs ws hS => ?_
  refine block_n (then_n (rA [(0, .oi ((x6 + 1 : Nat) : Int))] trivial (fun _ => [iadd .i64 ((x6 : Nat) : Int) 1 = ((x6 + 1 : Nat) : Int)]) [1, 2, 5, 6] [0, 1] 2 ⟨by rw [iadd64 (by omega) (by omega)]; omega, trivial⟩ hS fun ac gs ws hS => ?_))
  refine then_n ?_
  exact next_y hg0 hS (s := (x6, o1_0)) (x6 + 1, upd o1_0 x6 (ixor .u32 (o1_0 x6) (IntKind.wrap .u32 (ishr .u64 (sstart_m x6) 32)))) [(0, 0), (1, 1)] (show 8 - (x6 + 1) < 8 - x6 from by omega) ⟨(by omega), (it_next (F := over_l1 h) (st := over_l1_s h) (fun _ => rfl) hq1 rfl), trivial⟩
 ·have hScur := hS
  obtain rfl : 8 = x6 := by omega
  obtain rfl : over_l1 h 8 = o1_0 := Eq.symm (congrArg (fun z => z) hq1)
  have hS := hScur
  clear hScur
  refine wp_exit (then_exit (then_exit (block_exit (then_n (s0 [2] [1] 2 hS fun ac gs ws hS => ?_)))))
  refine wp_ret ?_
  have hM : over_m h = over_l1 h 8 := over_e h
  exact fin_y rfl (.inr rfl) hS [.ar .u32 8 (over_l1 h 8)] [] (by show weak _ (.ar .u32 8 (over_m h)) = (.ar .u32 8 (over_m h)); rw [hM]; first | (simp only []; rfl) | (simp only []; done) | rfl) trivial

noncomputable def turn256_l1_s (h : Nat → Int) (xs : List Int) (x22 : Nat) : (Nat → Int) → (Nat → Int) := fun o5_0 => if ((x22 : Nat) : Int) < 16 then upd o5_0 x22 (get32_m (xs.drop (4 * x22))) else upd o5_0 x22 (iadd .u32 (iadd .u32 (iadd .u32 (o5_0 (x22 - 16)) (ixor .u32 (ixor .u32 (rot32_m (o5_0 (x22 - 15)) (-7)) (rot32_m (o5_0 (x22 - 15)) (-18))) (ishr .u32 (o5_0 (x22 - 15)) 3))) (o5_0 (x22 - 7))) (ixor .u32 (ixor .u32 (rot32_m (o5_0 (x22 - 2)) (-17)) (rot32_m (o5_0 (x22 - 2)) (-19))) (ishr .u32 (o5_0 (x22 - 2)) 10)))
noncomputable def turn256_l1 (h : Nat → Int) (xs : List Int) : Nat → (Nat → Int)
 | 0 => fun _ => 0
 | x22 + 1 => turn256_l1_s h xs x22 (turn256_l1 h xs x22)
noncomputable def turn256_l2_s (h : Nat → Int) (xs : List Int) (x75 : Nat) : (Nat → Int) → (Nat → Int) := fun o12_0 => upd (upd (upd (upd (upd (upd (upd (upd (fun _ => 0) 0 (iadd .u32 (iadd .u32 (iadd .u32 (iadd .u32 (iadd .u32 (o12_0 7) (ixor .u32 (ixor .u32 (rot32_m (o12_0 4) (-6)) (rot32_m (o12_0 4) (-11))) (rot32_m (o12_0 4) (-25)))) (ixor .u32 (iand .u32 (o12_0 4) (o12_0 5)) (iand .u32 (inot .u32 (o12_0 4)) (o12_0 6)))) (IntKind.wrap .u32 (ishr .u64 (srounds_m x75) 32))) ((turn256_l1 h xs 64) x75)) (iadd .u32 (ixor .u32 (ixor .u32 (rot32_m (o12_0 0) (-2)) (rot32_m (o12_0 0) (-13))) (rot32_m (o12_0 0) (-22))) (ixor .u32 (ixor .u32 (iand .u32 (o12_0 0) (o12_0 1)) (iand .u32 (o12_0 0) (o12_0 2))) (iand .u32 (o12_0 1) (o12_0 2)))))) 1 (o12_0 0)) 2 (o12_0 1)) 3 (o12_0 2)) 4 (iadd .u32 (o12_0 3) (iadd .u32 (iadd .u32 (iadd .u32 (iadd .u32 (o12_0 7) (ixor .u32 (ixor .u32 (rot32_m (o12_0 4) (-6)) (rot32_m (o12_0 4) (-11))) (rot32_m (o12_0 4) (-25)))) (ixor .u32 (iand .u32 (o12_0 4) (o12_0 5)) (iand .u32 (inot .u32 (o12_0 4)) (o12_0 6)))) (IntKind.wrap .u32 (ishr .u64 (srounds_m x75) 32))) ((turn256_l1 h xs 64) x75)))) 5 (o12_0 4)) 6 (o12_0 5)) 7 (o12_0 6)
noncomputable def turn256_l2 (h : Nat → Int) (xs : List Int) : Nat → (Nat → Int)
 | 0 => h
 | x75 + 1 => turn256_l2_s h xs x75 (turn256_l2 h xs x75)
noncomputable def turn256_l3_s (h : Nat → Int) (xs : List Int) (x159 : Nat) : (Nat → Int) → (Nat → Int) := fun o2_0 => upd o2_0 x159 (iadd .u32 (o2_0 x159) ((turn256_l2 h xs 64) x159))
noncomputable def turn256_l3 (h : Nat → Int) (xs : List Int) : Nat → (Nat → Int)
 | 0 => h
 | x159 + 1 => turn256_l3_s h xs x159 (turn256_l3 h xs x159)
noncomputable def turn256_v (h : Nat → Int) (xs : List Int) : (Nat → Int) := turn256_l3 h xs 8
noncomputable def turn256_m (h : Nat → Int) (xs : List Int) : (Nat → Int) := shut (turn256_v h xs)
theorem turn256_e (h : Nat → Int) (xs : List Int) : turn256_m h xs = turn256_v h xs := shut_eq _
noncomputable def c_turn256 (h : Nat → Int) (xs : List Int) : Con := ⟨[.ar .u32 8 h, .ls false [.int .u8] xs], [], .ar .u32 8 (turn256_m h xs), []⟩
set_option maxRecDepth 100000 in
set_option maxHeartbeats 1000000 in
theorem turn256_ok (h : Nat → Int) (xs : List Int) (hx : 64 ≤ xs.length) : ConOk Tryz.prog 163 (c_turn256 h xs) := by
 refine conOk_of rfl (nb := 0) Tryz.func163 rfl rfl Tryz.ntmps163 rfl rfl rfl fun g0 w0 ac gs ws hg0 hS => ?_
 have hlen1 : xs.length ≤ 9223372036854775807 := hS.len 1 rfl
 have hS := hS.sp
 refine s0 [1, 2, 4] [0, 1] 2 hS fun ac gs ws hS => ?_
 refine s0 [1, 2, 4, 5] [0, 1, 2] 3 hS fun ac gs ws hS => ?_
 refine sA [(0, .call ⟨189, (c_srounds), [], []⟩)] ⟨srounds_ok, trivial⟩ (fun C => [ndC C 0]) [1, 2, 4, 5, 6] [0, 1, 2, 3] 4 ⟨rfl, trivial⟩ hS fun ac gs ws hS => ?_
 refine wp_seq (s0 [1, 2, 4, 5, 6, 22] [0, 1, 2, 3] 4 hS fun ac gs ws hS => ?_)
 refine wp_block (loop_y (ι := Nat × (Nat → Int)) hg0 hS (fun z_ => match z_ with | (x22, o5_0) => 64 - x22) (fun z_ => match z_ with | (x22, o5_0) => [(1, .ls false [.int .u8] xs), (2, .cp 0 0), (4, .cp 1 0), (5, .cp 2 0), (6, .cp 3 0), (22, .v (.int .i64 ((x22 : Nat) : Int)))]) (fun z_ => match z_ with | (x22, o5_0) => [(0, .ob 177 (chain [.ar .u32 8 h])), (1, .ob 177 (chain [.ar .u32 8 (fun _ => 0)])), (2, .ob 201 (chain [.ar .u32 64 o5_0])), (3, .ob 197 (chain [.ar .u64 80 srounds_m]))]) (fun z_ => match z_ with | (x22, o5_0) => (x22 ≤ 64) ∧ (o5_0 = turn256_l1 h xs x22) ∧ True) 4 (0, fun _ => 0) [(0, 0), (1, 1), (2, 2), (3, 3)] ⟨(by omega), rfl, trivial⟩ ?_)
 rintro ⟨x22, o5_0⟩ ac gs ws ⟨hx22, hq1, _⟩ hS
 refine s0 [1, 2, 4, 5, 6, 22, 23] [0, 1, 2, 3] 4 hS fun ac gs ws hS => ?_
 refine wp_seq ?_
 refine if_d (((x22 : Nat) : Int) < 64) hS (fun h1 => ?_) (fun h1 => ?_)
 ·refine wp_skip (then_n (wp_seq (wp_block (s0 [1, 2, 4, 5, 6, 7, 22] [0, 1, 2, 3] 4 hS fun ac gs ws hS => ?_))))
  refine wp_seq (s0 [1, 2, 4, 5, 6, 7, 22, 26] [0, 1, 2, 3] 4 hS fun ac gs ws hS => ?_)
  refine if_d (((x22 : Nat) : Int) < 16) hS (fun h2 => ?_) (fun h2 => ?_)
  ·refine sA [(3, .oi ((4 * x22 : Nat) : Int)), (5, .call ⟨190, (c_get32 (xs.drop (4 * x22))), [], []⟩)] ⟨get32_ok (xs.drop (4 * x22)), trivial⟩ (fun C => [imul .i64 4 ((x22 : Nat) : Int) = ((4 * x22 : Nat) : Int), bndP (some ((4 * x22 : Nat) : Int)) none none xs.length xs.length, ndC C 5, (0 : Int) ≤ ((x22 : Nat) : Int) ∧ (((x22 : Nat) : Int) : Int) < 64]) [1, 2, 4, 5, 6, 7, 22] [0, 1, 2, 3] 4 ⟨by rw [imul64 (by omega) (by omega)]; omega, ⟨by simp only [nnI] <;> omega, by simp only [nnI] <;> omega, by simp only [nnI] <;> omega, by simp, by simp only [bl] <;> omega, by simp only [bl] <;> omega, by simp only [bl] <;> omega⟩, rfl, by omega, trivial⟩ hS fun ac gs ws hS => ?_
   refine wp_exit (then_exit (block_exit (then_n (rA [(0, .oi ((x22 + 1 : Nat) : Int))] trivial (fun _ => [iadd .i64 ((x22 : Nat) : Int) 1 = ((x22 + 1 : Nat) : Int)]) [1, 2, 4, 5, 6, 22] [0, 1, 2, 3] 4 ⟨by rw [iadd64 (by omega) (by omega)]; omega, trivial⟩ hS fun ac gs ws hS => ?_))))
   refine then_n ?_
   exact next_y hg0 hS (s := (x22, o5_0)) (x22 + 1, upd o5_0 x22 (get32_m (xs.drop (4 * x22)))) [(0, 0), (1, 1), (2, 2), (3, 3)] (show 64 - (x22 + 1) < 64 - x22 from by omega) ⟨(by omega), (it_next (F := turn256_l1 h xs) (st := turn256_l1_s h xs) (fun _ => rfl) hq1 (Eq.symm (if_pos h2))), trivial⟩
  ·refine wp_skip (then_n (sA [(1, .oi ((x22 - 15 : Nat) : Int)), (5, .oi ((x22 - 2 : Nat) : Int))] trivial (fun _ => [isub .i64 ((x22 : Nat) : Int) 15 = ((x22 - 15 : Nat) : Int), (0 : Int) ≤ ((x22 - 15 : Nat) : Int) ∧ (((x22 - 15 : Nat) : Int) : Int) < 64, isub .i64 ((x22 : Nat) : Int) 2 = ((x22 - 2 : Nat) : Int), (0 : Int) ≤ ((x22 - 2 : Nat) : Int) ∧ (((x22 - 2 : Nat) : Int) : Int) < 64]) [1, 2, 4, 5, 6, 7, 8, 9, 22] [0, 1, 2, 3] 4 ⟨by rw [isub64 (by omega) (by omega)]; omega, by omega, by rw [isub64 (by omega) (by omega)]; omega, by omega, trivial⟩ hS fun ac gs ws hS => ?_))
   refine sA [(1, .call ⟨191, (c_rot32 (o5_0 (x22 - 15)) (-7)), [], []⟩), (3, .call ⟨191, (c_rot32 (o5_0 (x22 - 15)) (-18)), [], []⟩)] ⟨rot32_ok (o5_0 (x22 - 15)) (-7), rot32_ok (o5_0 (x22 - 15)) (-18), trivial⟩ (fun C => [ndC C 1, ndC C 3, (0 : Int) ≤ 3]) [1, 2, 4, 5, 6, 7, 9, 10, 22] [0, 1, 2, 3] 4 ⟨rfl, rfl, by omega, trivial⟩ hS fun ac gs ws hS => ?_
   refine sA [(1, .call ⟨191, (c_rot32 (o5_0 (x22 - 2)) (-17)), [], []⟩), (3, .call ⟨191, (c_rot32 (o5_0 (x22 - 2)) (-19)), [], []⟩)] ⟨rot32_ok (o5_0 (x22 - 2)) (-17), rot32_ok (o5_0 (x22 - 2)) (-19), trivial⟩ (fun C => [ndC C 1, ndC C 3, (0 : Int) ≤ 10]) [1, 2, 4, 5, 6, 7, 10, 11, 22] [0, 1, 2, 3] 4 ⟨rfl, rfl, by omega, trivial⟩ hS fun ac gs ws hS => ?_
   refine rA [(2, .oi ((x22 - 16 : Nat) : Int)), (8, .oi ((x22 - 7 : Nat) : Int))] trivial (fun _ => [isub .i64 ((x22 : Nat) : Int) 16 = ((x22 - 16 : Nat) : Int), (0 : Int) ≤ ((x22 - 16 : Nat) : Int) ∧ (((x22 - 16 : Nat) : Int) : Int) < 64, isub .i64 ((x22 : Nat) : Int) 7 = ((x22 - 7 : Nat) : Int), (0 : Int) ≤ ((x22 - 7 : Nat) : Int) ∧ (((x22 - 7 : Nat) : Int) : Int) < 64, (0 : Int) ≤ ((x22 : Nat) : Int) ∧ (((x22 : Nat) : Int) : Int) < 64]) [1, 2, 4, 5, 6, 22] [0, 1, 2, 3] 4 ⟨by rw [isub64 (by omega) (by omega)]; omega, by omega, by rw [isub64 (by omega) (by omega)]; omega, by omega, by omega, trivial⟩ hS fun ac gs ws hS => ?_
   refine block_n (then_n (rA [(0, .oi ((x22 + 1 : Nat) : Int))] trivial (fun _ => [iadd .i64 ((x22 : Nat) : Int) 1 = ((x22 + 1 : Nat) : Int)]) [1, 2, 4, 5, 6, 22] [0, 1, 2, 3] 4 ⟨by rw [iadd64 (by omega) (by omega)]; omega, trivial⟩ hS fun ac gs ws hS => ?_))
   refine then_n ?_
   exact next_y hg0 hS (s := (x22, o5_0)) (x22 + 1, upd o5_0 x22 (iadd .u32 (iadd .u32 (iadd .u32 (o5_0 (x22 - 16)) (ixor .u32 (ixor .u32 (rot32_m (o5_0 (x22 - 15)) (-7)) (rot32_m (o5_0 (x22 - 15)) (-18))) (ishr .u32 (o5_0 (x22 - 15)) 3))) (o5_0 (x22 - 7))) (ixor .u32 (ixor .u32 (rot32_m (o5_0 (x22 - 2)) (-17)) (rot32_m (o5_0 (x22 - 2)) (-19))) (ishr .u32 (o5_0 (x22 - 2)) 10)))) [(0, 0), (1, 1), (2, 2), (3, 3)] (show 64 - (x22 + 1) < 64 - x22 from by omega) ⟨(by omega), (it_next (F := turn256_l1 h xs) (st := turn256_l1_s h xs) (fun _ => rfl) hq1 (Eq.symm (if_neg h2))), trivial⟩
 ·have hScur := hS
  obtain rfl : 64 = x22 := by omega
  obtain rfl : turn256_l1 h xs 64 = o5_0 := Eq.symm (congrArg (fun z => z) hq1)
  have hS := hScur
  clear hScur
  refine wp_exit (then_exit (then_exit (block_exit (then_n (s0 [2, 4, 5, 6, 12] [0, 1, 2, 3, 4] 5 hS fun ac gs ws hS => ?_)))))
  refine wp_seq (s0 [2, 4, 5, 6, 12, 75] [0, 1, 2, 3, 4] 5 hS fun ac gs ws hS => ?_)
  refine wp_block (loop_y (ι := Nat × (Nat → Int)) hg0 hS (fun z_ => match z_ with | (x75, o12_0) => 64 - x75) (fun z_ => match z_ with | (x75, o12_0) => [(2, .cp 0 0), (4, .cp 1 0), (5, .cp 2 0), (6, .cp 3 0), (12, .cp 4 0), (75, .v (.int .i64 ((x75 : Nat) : Int)))]) (fun z_ => match z_ with | (x75, o12_0) => [(0, .ob 177 (chain [.ar .u32 8 h])), (1, .ob 177 (chain [.ar .u32 8 (fun _ => 0)])), (2, .ob 201 (chain [.ar .u32 64 (turn256_l1 h xs 64)])), (3, .ob 197 (chain [.ar .u64 80 srounds_m])), (4, .ob 177 (chain [.ar .u32 8 o12_0]))]) (fun z_ => match z_ with | (x75, o12_0) => (x75 ≤ 64) ∧ (o12_0 = turn256_l2 h xs x75) ∧ True) 5 (0, h) [(0, 0), (1, 1), (2, 2), (3, 3), (4, 4)] ⟨(by omega), rfl, trivial⟩ ?_)
  rintro ⟨x75, o12_0⟩ ac gs ws ⟨hx75, hq2, _⟩ hS
  refine s0 [2, 4, 5, 6, 12, 75, 76] [0, 1, 2, 3, 4] 5 hS fun ac gs ws hS => ?_
  refine wp_seq ?_
  refine if_d (((x75 : Nat) : Int) < 64) hS (fun h3 => ?_) (fun h3 => ?_)
  ·refine wp_skip (then_n (wp_seq (wp_block (s0 [2, 4, 5, 6, 12, 13, 75] [0, 1, 2, 3, 4] 5 hS fun ac gs ws hS => ?_))))
   refine sA [] trivial (fun _ => [(0 : Int) ≤ 0 ∧ (0 : Int) < 8, (0 : Int) ≤ 4 ∧ (4 : Int) < 8]) [2, 4, 5, 6, 12, 13, 14, 15, 75] [0, 1, 2, 3, 4] 5 ⟨by omega, by omega, trivial⟩ hS fun ac gs ws hS => ?_
   refine sA [(1, .call ⟨191, (c_rot32 (o12_0 4) (-6)), [], []⟩), (3, .call ⟨191, (c_rot32 (o12_0 4) (-11)), [], []⟩), (6, .call ⟨191, (c_rot32 (o12_0 4) (-25)), [], []⟩)] ⟨rot32_ok (o12_0 4) (-6), rot32_ok (o12_0 4) (-11), rot32_ok (o12_0 4) (-25), trivial⟩ (fun C => [ndC C 1, ndC C 3, ndC C 6]) [2, 4, 5, 6, 12, 13, 14, 15, 16, 75] [0, 1, 2, 3, 4] 5 ⟨rfl, rfl, rfl, trivial⟩ hS fun ac gs ws hS => ?_
   refine sA [] trivial (fun _ => [(0 : Int) ≤ 7 ∧ (7 : Int) < 8, (0 : Int) ≤ 5 ∧ (5 : Int) < 8, (0 : Int) ≤ 6 ∧ (6 : Int) < 8, (0 : Int) ≤ ((x75 : Nat) : Int) ∧ (((x75 : Nat) : Int) : Int) < 80, (0 : Int) ≤ 32, (0 : Int) ≤ ((x75 : Nat) : Int) ∧ (((x75 : Nat) : Int) : Int) < 64]) [2, 4, 5, 6, 12, 14, 15, 17, 75] [0, 1, 2, 3, 4] 5 ⟨by omega, by omega, by omega, by omega, by omega, by omega, trivial⟩ hS fun ac gs ws hS => ?_
   refine sA [(1, .call ⟨191, (c_rot32 (o12_0 0) (-2)), [], []⟩), (3, .call ⟨191, (c_rot32 (o12_0 0) (-13)), [], []⟩), (6, .call ⟨191, (c_rot32 (o12_0 0) (-22)), [], []⟩)] ⟨rot32_ok (o12_0 0) (-2), rot32_ok (o12_0 0) (-13), rot32_ok (o12_0 0) (-22), trivial⟩ (fun C => [ndC C 1, ndC C 3, ndC C 6]) [2, 4, 5, 6, 12, 14, 15, 17, 18, 75] [0, 1, 2, 3, 4] 5 ⟨rfl, rfl, rfl, trivial⟩ hS fun ac gs ws hS => ?_
   refine sA [] trivial (fun _ => [(0 : Int) ≤ 1 ∧ (1 : Int) < 8, (0 : Int) ≤ 2 ∧ (2 : Int) < 8, (0 : Int) ≤ 1 ∧ (1 : Int) < 8, (0 : Int) ≤ 2 ∧ (2 : Int) < 8]) [2, 4, 5, 6, 12, 14, 15, 17, 19, 75] [0, 1, 2, 3, 4] 5 ⟨by omega, by omega, by omega, by omega, trivial⟩ hS fun ac gs ws hS => ?_
   refine rA [] trivial (fun _ => [(0 : Int) ≤ 1 ∧ (1 : Int) < 8, (0 : Int) ≤ 2 ∧ (2 : Int) < 8, (0 : Int) ≤ 3 ∧ (3 : Int) < 8, (0 : Int) ≤ 5 ∧ (5 : Int) < 8, (0 : Int) ≤ 6 ∧ (6 : Int) < 8]) [2, 4, 5, 6, 12, 75] [0, 1, 2, 3, 4] 5 ⟨by omega, by omega, by omega, by omega, by omega, trivial⟩ hS fun ac gs ws hS => ?_
   refine block_n (then_n (rA [(0, .oi ((x75 + 1 : Nat) : Int))] trivial (fun _ => [iadd .i64 ((x75 : Nat) : Int) 1 = ((x75 + 1 : Nat) : Int)]) [2, 4, 5, 6, 12, 75] [0, 1, 2, 3, 4] 5 ⟨by rw [iadd64 (by omega) (by omega)]; omega, trivial⟩ hS fun ac gs ws hS => ?_))
   refine then_n ?_
   exact next_y hg0 hS (s := (x75, o12_0)) (x75 + 1, upd (upd (upd (upd (upd (upd (upd (upd (fun _ => 0) 0 (iadd .u32 (iadd .u32 (iadd .u32 (iadd .u32 (iadd .u32 (o12_0 7) (ixor .u32 (ixor .u32 (rot32_m (o12_0 4) (-6)) (rot32_m (o12_0 4) (-11))) (rot32_m (o12_0 4) (-25)))) (ixor .u32 (iand .u32 (o12_0 4) (o12_0 5)) (iand .u32 (inot .u32 (o12_0 4)) (o12_0 6)))) (IntKind.wrap .u32 (ishr .u64 (srounds_m x75) 32))) ((turn256_l1 h xs 64) x75)) (iadd .u32 (ixor .u32 (ixor .u32 (rot32_m (o12_0 0) (-2)) (rot32_m (o12_0 0) (-13))) (rot32_m (o12_0 0) (-22))) (ixor .u32 (ixor .u32 (iand .u32 (o12_0 0) (o12_0 1)) (iand .u32 (o12_0 0) (o12_0 2))) (iand .u32 (o12_0 1) (o12_0 2)))))) 1 (o12_0 0)) 2 (o12_0 1)) 3 (o12_0 2)) 4 (iadd .u32 (o12_0 3) (iadd .u32 (iadd .u32 (iadd .u32 (iadd .u32 (o12_0 7) (ixor .u32 (ixor .u32 (rot32_m (o12_0 4) (-6)) (rot32_m (o12_0 4) (-11))) (rot32_m (o12_0 4) (-25)))) (ixor .u32 (iand .u32 (o12_0 4) (o12_0 5)) (iand .u32 (inot .u32 (o12_0 4)) (o12_0 6)))) (IntKind.wrap .u32 (ishr .u64 (srounds_m x75) 32))) ((turn256_l1 h xs 64) x75)))) 5 (o12_0 4)) 6 (o12_0 5)) 7 (o12_0 6)) [(0, 0), (1, 1), (2, 2), (3, 3), (4, 4)] (show 64 - (x75 + 1) < 64 - x75 from by omega) ⟨(by omega), (it_next (F := turn256_l2 h xs) (st := turn256_l2_s h xs) (fun _ => rfl) hq2 rfl), trivial⟩
  ·have hScur := hS
   obtain rfl : 64 = x75 := by omega
   obtain rfl : turn256_l2 h xs 64 = o12_0 := Eq.symm (congrArg (fun z => z) hq2)
   have hS := hScur
   clear hScur
   refine wp_exit (then_exit (then_exit (block_exit (then_n (wp_seq (s0 [2, 4, 12, 159] [0, 1, 4] 5 hS fun ac gs ws hS => ?_))))))
   refine wp_block (loop_y (ι := Nat × (Nat → Int)) hg0 hS (fun z_ => match z_ with | (x159, o2_0) => 8 - x159) (fun z_ => match z_ with | (x159, o2_0) => [(2, .cp 0 0), (4, .cp 1 0), (12, .cp 4 0), (159, .v (.int .i64 ((x159 : Nat) : Int)))]) (fun z_ => match z_ with | (x159, o2_0) => [(0, .ob 177 (chain [.ar .u32 8 o2_0])), (1, .ob 177 (chain [.ar .u32 8 (fun _ => 0)])), (4, .ob 177 (chain [.ar .u32 8 (turn256_l2 h xs 64)]))]) (fun z_ => match z_ with | (x159, o2_0) => (x159 ≤ 8) ∧ (o2_0 = turn256_l3 h xs x159) ∧ True) 5 (0, h) [(0, 0), (1, 1), (4, 4)] ⟨(by omega), rfl, trivial⟩ ?_)
   rintro ⟨x159, o2_0⟩ ac gs ws ⟨hx159, hq3, _⟩ hS
   refine s0 [2, 4, 12, 159, 160] [0, 1, 4] 5 hS fun ac gs ws hS => ?_
   refine wp_seq ?_
   refine if_d (((x159 : Nat) : Int) < 8) hS (fun h4 => ?_) (fun h4 => ?_)
   ·refine wp_skip (then_n (wp_seq (wp_block (s0 [2, 4, 12, 20, 159] [0, 1, 4] 5 hS fun ac gs ws hS => ?_))))
    refine rA [] trivial (fun _ => [(0 : Int) ≤ ((x159 : Nat) : Int) ∧ (((x159 : Nat) : Int) : Int) < 8, (0 : Int) ≤ ((x159 : Nat) : Int) ∧ (((x159 : Nat) : Int) : Int) < 8, (0 : Int) ≤ ((x159 : Nat) : Int) ∧ (((x159 : Nat) : Int) : Int) < 8]) [2, 4, 12, 159] [0, 1, 4] 5 ⟨by omega, by omega, by omega, trivial⟩ hS fun ac gs ws hS => ?_
    refine block_n (then_n (rA [(0, .oi ((x159 + 1 : Nat) : Int))] trivial (fun _ => [iadd .i64 ((x159 : Nat) : Int) 1 = ((x159 + 1 : Nat) : Int)]) [2, 4, 12, 159] [0, 1, 4] 5 ⟨by rw [iadd64 (by omega) (by omega)]; omega, trivial⟩ hS fun ac gs ws hS => ?_))
    refine then_n ?_
    exact next_y hg0 hS (s := (x159, o2_0)) (x159 + 1, upd o2_0 x159 (iadd .u32 (o2_0 x159) ((turn256_l2 h xs 64) x159))) [(0, 0), (1, 1), (4, 4)] (show 8 - (x159 + 1) < 8 - x159 from by omega) ⟨(by omega), (it_next (F := turn256_l3 h xs) (st := turn256_l3_s h xs) (fun _ => rfl) hq3 rfl), trivial⟩
   ·have hScur := hS
    obtain rfl : 8 = x159 := by omega
    obtain rfl : turn256_l3 h xs 8 = o2_0 := Eq.symm (congrArg (fun z => z) hq3)
    have hS := hScur
    clear hScur
    refine wp_exit (then_exit (then_exit (block_exit (then_n (s0 [4] [1] 5 hS fun ac gs ws hS => ?_)))))
    refine wp_ret ?_
    have hM : turn256_m h xs = turn256_l3 h xs 8 := turn256_e h xs
    exact fin_y rfl (.inr rfl) hS [.ar .u32 8 (turn256_l3 h xs 8)] [] (by show weak _ (.ar .u32 8 (turn256_m h xs)) = (.ar .u32 8 (turn256_m h xs)); rw [hM]; first | (simp only []; rfl) | (simp only []; done) | rfl) trivial

noncomputable def padded_v (xs : List Int) (n : Int) : (List Int) := (((xs ++ ([128] : List Int)) ++ List.replicate ((120 - (((xs ++ ([128] : List Int)).length) % 64)) % 64) (0 : Int)) ++ List.replicate 0 (0 : Int)) ++ (put64_m (imul .u64 8 n))
noncomputable def padded_m (xs : List Int) (n : Int) : (List Int) := shut (padded_v xs n)
theorem padded_e (xs : List Int) (n : Int) : padded_m xs n = padded_v xs n := shut_eq _
noncomputable def c_padded (xs : List Int) (n : Int) : Con := ⟨[.ls false [.int .u8] xs, .v (.int .u64 n), .v (.int .i64 64)], [], .ls false [.int .u8] (padded_m xs n), []⟩
set_option maxRecDepth 100000 in
set_option maxHeartbeats 1000000 in
theorem padded_ok (xs : List Int) (n : Int) (hx : xs.length ≤ 1000000000000) : ConOk Tryz.prog 164 (c_padded xs n) := by
 refine conOk_of rfl (nb := 0) Tryz.func164 rfl rfl Tryz.ntmps164 rfl rfl rfl fun g0 w0 ac gs ws hg0 hS => ?_
 have hlen0 : xs.length ≤ 9223372036854775807 := hS.len 0 rfl
 have hS := hS.sp
 refine s0 [0, 1, 2, 6] [] 0 hS fun ac gs ws hS => ?_
 refine sA [(1, .call ⟨81, (c_clonek xs), [], [(0, 0)]⟩)] ⟨clonek_ok xs (by first | omega | (simp only [List.length_append, List.length_drop, List.length_take, List.length_replicate, List.length_cons, List.length_nil, List.length_map, List.length_range] <;> omega) | (simp <;> omega)), trivial⟩ (fun C => [ndC C 1, xs.length + ([128] : List Int).length ≤ 9223372036854775807, (xs.length + ([128] : List Int).length) * 1 ≤ 140737488355328]) [1, 2, 6, 7] [1] 2 ⟨rfl, by simp <;> omega, by simp <;> omega, trivial⟩ hS fun ac gs ws hS => ?_
 refine sA [] trivial (fun _ => [(8 : Int) ≠ 0]) [1, 2, 6, 7, 8] [1] 2 ⟨by omega, trivial⟩ hS fun ac gs ws hS => ?_
 refine sA [(8, .oi ((((xs ++ ([128] : List Int)).length) % 64 : Nat) : Int)), (9, .oi ((120 - (((xs ++ ([128] : List Int)).length) % 64) : Nat) : Int)), (11, .oi (((120 - (((xs ++ ([128] : List Int)).length) % 64)) % 64 : Nat) : Int))] trivial (fun _ => [irem (((xs ++ ([128] : List Int)).length : Nat) : Int) 64 = ((((xs ++ ([128] : List Int)).length) % 64 : Nat) : Int), (64 : Int) ≠ 0, isub .i64 120 ((((xs ++ ([128] : List Int)).length) % 64 : Nat) : Int) = ((120 - (((xs ++ ([128] : List Int)).length) % 64) : Nat) : Int), irem ((120 - (((xs ++ ([128] : List Int)).length) % 64) : Nat) : Int) 64 = (((120 - (((xs ++ ([128] : List Int)).length) % 64)) % 64 : Nat) : Int), (64 : Int) ≠ 0, (0 : Int) ≤ (((120 - (((xs ++ ([128] : List Int)).length) % 64)) % 64 : Nat) : Int), (xs ++ ([128] : List Int)).length + ((120 - (((xs ++ ([128] : List Int)).length) % 64)) % 64) ≤ 9223372036854775807, ((xs ++ ([128] : List Int)).length + ((120 - (((xs ++ ([128] : List Int)).length) % 64)) % 64)) * 1 ≤ 140737488355328]) [1, 6, 7, 8] [2] 3 ⟨by rw [irem64 (by omega)]; omega, by omega, by rw [isub64 (by omega) (by omega)]; omega, by rw [irem64 (by omega)]; omega, by omega, by omega, by simp <;> omega, by simp <;> omega, trivial⟩ hS fun ac gs ws hS => ?_
 refine sA [] trivial (fun _ => [(0 : Int) ≤ 0, ((xs ++ ([128] : List Int)) ++ List.replicate ((120 - (((xs ++ ([128] : List Int)).length) % 64)) % 64) (0 : Int)).length + 0 ≤ 9223372036854775807, (((xs ++ ([128] : List Int)) ++ List.replicate ((120 - (((xs ++ ([128] : List Int)).length) % 64)) % 64) (0 : Int)).length + 0) * 1 ≤ 140737488355328]) [1, 6, 7] [3] 4 ⟨by omega, by simp <;> omega, by simp <;> omega, trivial⟩ hS fun ac gs ws hS => ?_
 refine sA [(3, .call ⟨160, (c_put64 (imul .u64 8 n)), [], []⟩)] ⟨put64_ok (imul .u64 8 n), trivial⟩ (fun C => [ndC C 3, (((xs ++ ([128] : List Int)) ++ List.replicate ((120 - (((xs ++ ([128] : List Int)).length) % 64)) % 64) (0 : Int)) ++ List.replicate 0 (0 : Int)).length + (put64_m (imul .u64 8 n)).length ≤ 9223372036854775807, ((((xs ++ ([128] : List Int)) ++ List.replicate ((120 - (((xs ++ ([128] : List Int)).length) % 64)) % 64) (0 : Int)) ++ List.replicate 0 (0 : Int)).length + (put64_m (imul .u64 8 n)).length) * 1 ≤ 140737488355328]) [6] [4] 5 ⟨rfl, by simp <;> omega, by simp <;> omega, trivial⟩ hS fun ac gs ws hS => ?_
 refine wp_ret ?_
 have hM : padded_m xs n = (((xs ++ ([128] : List Int)) ++ List.replicate ((120 - (((xs ++ ([128] : List Int)).length) % 64)) % 64) (0 : Int)) ++ List.replicate 0 (0 : Int)) ++ (put64_m (imul .u64 8 n)) := padded_e xs n
 obtain ⟨gs, hS⟩ := hS.fz 4
 exact fin_y rfl (.inr rfl) hS [.ls false [.int .u8] ((((xs ++ ([128] : List Int)) ++ List.replicate ((120 - (((xs ++ ([128] : List Int)).length) % 64)) % 64) (0 : Int)) ++ List.replicate 0 (0 : Int)) ++ (put64_m (imul .u64 8 n)))] [] (by show weak _ (.ls false [.int .u8] (padded_m xs n)) = (.ls false [.int .u8] (padded_m xs n)); rw [hM]; first | (simp only []; rfl) | (simp only []; done) | rfl) trivial

end Go.Sx.Tryz
namespace Go.Sx.Tryz
open Go.Mi Go.RowKit Go.Sx Go.Proofs
theorem padded_len (xs : List Int) (n : Int) : (padded_m xs n).length % 64 = 0 ∧ (padded_m xs n).length ≤ xs.length + 200 := by
 rw [padded_e]
 unfold padded_v
 simp only [List.length_append, List.length_cons, List.length_nil, List.length_replicate, put64_len]
 omega
noncomputable def hadd_l1_s (h : Nat → Int) (r : List Int) (n : Int) (b : List Int) (k1 : Nat) : ((List Int) × (Nat → Int)) → ((List Int) × (Nat → Int)) := fun z_ => match z_ with | (x4, o5_0) => (x4.drop 64, turn256_m o5_0 x4)
noncomputable def hadd_l1 (h : Nat → Int) (r : List Int) (n : Int) (b : List Int) : Nat → (List Int) × (Nat → Int)
 | 0 => ([r, b].flatten, over_m h)
 | k1 + 1 => hadd_l1_s h r n b k1 (hadd_l1 h r n b k1)
def hadd_l1_c (h : Nat → Int) (r : List Int) (n : Int) (b : List Int) : ((List Int) × (Nat → Int)) → Prop := fun z_ => match z_ with | (x4, o5_0) => (64 : Int) ≤ ((x4.length : Nat) : Int)
noncomputable def hadd_v (h : Nat → Int) (r : List Int) (n : Int) (b : List Int) : (Nat → Int) × (List Int) × Int := (over_m ((hadd_l1 h r n b (lst fun j => hadd_l1_c h r n b (hadd_l1 h r n b j))).2), (hadd_l1 h r n b (lst fun j => hadd_l1_c h r n b (hadd_l1 h r n b j))).1, (iadd .u64 n ((b.length : Nat) : Int)))
noncomputable def hadd_m (h : Nat → Int) (r : List Int) (n : Int) (b : List Int) : (Nat → Int) × (List Int) × Int := shut (hadd_v h r n b)
theorem hadd_e (h : Nat → Int) (r : List Int) (n : Int) (b : List Int) : hadd_m h r n b = hadd_v h r n b := shut_eq _
noncomputable def c_hadd (h : Nat → Int) (r : List Int) (n : Int) (b : List Int) : Con := ⟨[.cp 0 0, .ls false [.int .u8] b], [(0, .ob 179 (chain [.ar .u32 8 h, .ls false [.int .u8] r, .v (.int .u64 n)]))], .tu (chain []), [(0, .ob 179 (chain [.ar .u32 8 ((hadd_m h r n b).1), .ls false [.int .u8] ((hadd_m h r n b).2.1), .v (.int .u64 ((hadd_m h r n b).2.2))]))]⟩
set_option maxRecDepth 100000 in
set_option maxHeartbeats 1000000 in
theorem hadd_ok (h : Nat → Int) (r : List Int) (n : Int) (b : List Int) (hr : r.length ≤ 100000000000) (hb : b.length ≤ 100000000000) : ConOk Tryz.prog 122 (c_hadd h r n b) := by
 refine conOk_of rfl (nb := 1) Tryz.func122 rfl rfl Tryz.ntmps122 rfl rfl rfl fun g0 w0 ac gs ws hg0 hS => ?_
 have hlen1 : b.length ≤ 9223372036854775807 := hS.len 1 rfl
 have hS := hS.sp
 refine wp_seq (s0 [0, 1, 7] [0] 1 hS fun ac gs ws hS => ?_)
 refine cond_f hS ?_
 refine wp_skip (then_n (sA [(6, .oi ((b.length : Nat) : Int))] trivial (fun _ => [IntKind.wrap .u64 ((b.length : Nat) : Int) = ((b.length : Nat) : Int)]) [0, 1] [0] 1 ⟨wrap_u64 (by omega) (by omega), trivial⟩ hS fun ac gs ws hS => ?_))
 refine sA [(6, .call ⟨161, (c_concat [r, b]), [], [(0, 1)]⟩)] ⟨concat_ok [r, b] (by first | omega | (simp only [List.flatten_cons, List.flatten_nil, List.length_append, List.length_cons, List.length_nil, List.length_take, List.length_drop, List.length_replicate] <;> omega) | (simp <;> omega)), trivial⟩ (fun C => [ndC C 6]) [0, 4] [0, 1] 2 ⟨rfl, trivial⟩ hS fun ac gs ws hS => ?_
 refine sA [(3, .ov (.ar .u32 8 h)), (4, .call ⟨162, (c_over h), [], []⟩)] ⟨over_ok h, trivial⟩ (fun C => [(.ar .u32 8 h : D) = (.ar .u32 8 h), ndC C 4]) [0, 4, 5] [0, 1, 2] 3 ⟨rfl, rfl, trivial⟩ hS fun ac gs ws hS => ?_
 refine wp_seq (wp_block ?_)
 obtain ⟨gs, hS⟩ := hS.fz 1
 refine loop_y (ι := Nat × (List Int) × (Nat → Int)) hg0 hS (fun z_ => match z_ with | (k1, x4, o5_0) => x4.length) (fun z_ => match z_ with | (k1, x4, o5_0) => [(0, .cp 0 0), (4, .ls false [.int .u8] x4), (5, .cp 2 0)]) (fun z_ => match z_ with | (k1, x4, o5_0) => [(0, .ob 179 (chain [.ar .u32 8 h, .ls false [.int .u8] r, .v (.int .u64 (iadd .u64 n ((b.length : Nat) : Int)))])), (2, .ob 177 (chain [.ar .u32 8 o5_0]))]) (fun z_ => match z_ with | (k1, x4, o5_0) => ((x4, o5_0) = hadd_l1 h r n b k1) ∧ (∀ j, j < k1 → hadd_l1_c h r n b (hadd_l1 h r n b j)) ∧ (x4.length ≤ r.length + b.length) ∧ True) 3 (0, [r, b].flatten, over_m h) [(0, 0), (2, 2)] ⟨rfl, (fun j h => absurd h (Nat.not_lt_zero j)), (by simp), trivial⟩ ?_
 rintro ⟨k1, x4, o5_0⟩ ac gs ws ⟨hq1, hj1, p1, _⟩ hS
 refine wp_seq (s0 [0, 4, 5, 32] [0, 2] 3 hS fun ac gs ws hS => ?_)
 refine if_d ((64 : Int) ≤ ((x4.length : Nat) : Int)) hS (fun h1 => ?_) (fun h1 => ?_)
 ·refine wp_skip (then_n (wp_block (sA [(0, .ov (.ar .u32 8 o5_0)), (2, .call ⟨163, (c_turn256 o5_0 x4), [], []⟩)] ⟨turn256_ok o5_0 x4 (by first | omega | (simp only [List.length_append, List.length_drop, List.length_take, List.length_replicate, List.length_cons, List.length_nil, List.length_map, List.length_range] <;> omega) | (simp <;> omega)), trivial⟩ (fun _ => [(.ar .u32 8 o5_0 : D) = (.ar .u32 8 o5_0), nd [.ar .u32 8 o5_0, .ls false [.int .u8] x4] []]) [0, 4, 5] [0, 2] 3 ⟨rfl, rfl, trivial⟩ hS fun ac gs ws hS => ?_)))
  refine rA [] trivial (fun _ => [bndP (some 64) none none x4.length x4.length]) [0, 4, 5] [0, 2] 3 ⟨⟨by simp only [nnI] <;> omega, by simp only [nnI] <;> omega, by simp only [nnI] <;> omega, by simp, by simp only [bl] <;> omega, by simp only [bl] <;> omega, by simp only [bl] <;> omega⟩, trivial⟩ hS fun ac gs ws hS => ?_
  refine block_n (then_n ?_)
  exact next_y hg0 hS (s := (k1, x4, o5_0)) (k1 + 1, x4.drop 64, turn256_m o5_0 x4) [(0, 0), (2, 2)] (show (x4.drop 64).length < x4.length from by rw [List.length_drop]; omega) ⟨(it_next (F := hadd_l1 h r n b) (st := hadd_l1_s h r n b) (fun _ => rfl) hq1 rfl), (lst_next hj1 (by rw [← hq1]; exact h1)), (by rw [List.length_drop]; omega), trivial⟩
 ·have hScur := hS
  obtain rfl := lst_eq (P := fun j => hadd_l1_c h r n b (hadd_l1 h r n b j)) (by rw [← hq1]; first | exact h1 | exact not_not_intro h1) hj1
  obtain rfl : (hadd_l1 h r n b (lst fun j => hadd_l1_c h r n b (hadd_l1 h r n b j))).1 = x4 := Eq.symm (congrArg (fun z => z.1) hq1)
  obtain rfl : (hadd_l1 h r n b (lst fun j => hadd_l1_c h r n b (hadd_l1 h r n b j))).2 = o5_0 := Eq.symm (congrArg (fun z => z.2) hq1)
  have hS := hScur
  clear hScur
  refine wp_exit (then_exit (then_exit (block_exit (then_n (rA [(2, .ov (.ar .u32 8 ((hadd_l1 h r n b (lst fun j => hadd_l1_c h r n b (hadd_l1 h r n b j))).2))), (3, .call ⟨162, (c_over ((hadd_l1 h r n b (lst fun j => hadd_l1_c h r n b (hadd_l1 h r n b j))).2)), [], []⟩), (5, .call ⟨81, (c_clone ((hadd_l1 h r n b (lst fun j => hadd_l1_c h r n b (hadd_l1 h r n b j))).1)), [], []⟩)] ⟨over_ok ((hadd_l1 h r n b (lst fun j => hadd_l1_c h r n b (hadd_l1 h r n b j))).2), clone_ok ((hadd_l1 h r n b (lst fun j => hadd_l1_c h r n b (hadd_l1 h r n b j))).1) (by first | omega | (simp only [List.length_append, List.length_drop, List.length_take, List.length_replicate, List.length_cons, List.length_nil, List.length_map, List.length_range] <;> omega) | (simp <;> omega)), trivial⟩ (fun C => [(.ar .u32 8 ((hadd_l1 h r n b (lst fun j => hadd_l1_c h r n b (hadd_l1 h r n b j))).2) : D) = (.ar .u32 8 ((hadd_l1 h r n b (lst fun j => hadd_l1_c h r n b (hadd_l1 h r n b j))).2)), ndC C 3, ndC C 5]) [] [0] 3 ⟨rfl, rfl, rfl, trivial⟩ hS fun ac gs ws hS => ?_)))))
  have hM : hadd_m h r n b = (over_m ((hadd_l1 h r n b (lst fun j => hadd_l1_c h r n b (hadd_l1 h r n b j))).2), (hadd_l1 h r n b (lst fun j => hadd_l1_c h r n b (hadd_l1 h r n b j))).1, (iadd .u64 n ((b.length : Nat) : Int))) := hadd_e h r n b
  exact fin_y rfl (.inl rfl) hS [] [(0, some (.ob 179 (chain [.ar .u32 8 (over_m ((hadd_l1 h r n b (lst fun j => hadd_l1_c h r n b (hadd_l1 h r n b j))).2)), .ls false [.int .u8] ((hadd_l1 h r n b (lst fun j => hadd_l1_c h r n b (hadd_l1 h r n b j))).1), .v (.int .u64 (iadd .u64 n ((b.length : Nat) : Int)))])))] rfl (by show H1Ok _ [(0, .ob 179 (chain [.ar .u32 8 ((hadd_m h r n b).1), .ls false [.int .u8] ((hadd_m h r n b).2.1), .v (.int .u64 ((hadd_m h r n b).2.2))]))] true; rw [hM]; first | (simp only []; exact ⟨rfl, trivial⟩) | exact ⟨rfl, trivial⟩)

noncomputable def hsum_l1_s (h : Nat → Int) (r : List Int) (n : Int) (k1 : Nat) : ((List Int) × (Nat → Int)) → ((List Int) × (Nat → Int)) := fun z_ => match z_ with | (x4, o3_0) => (x4.drop 64, turn256_m o3_0 x4)
noncomputable def hsum_l1 (h : Nat → Int) (r : List Int) (n : Int) : Nat → (List Int) × (Nat → Int)
 | 0 => (padded_m r n, over_m h)
 | k1 + 1 => hsum_l1_s h r n k1 (hsum_l1 h r n k1)
def hsum_l1_c (h : Nat → Int) (r : List Int) (n : Int) : ((List Int) × (Nat → Int)) → Prop := fun z_ => match z_ with | (x4, o3_0) => (0 : Int) < ((x4.length : Nat) : Int)
noncomputable def hsum_l2_s (h : Nat → Int) (r : List Int) (n : Int) (x32 : Nat) : (List Int) → (List Int) := fun x2 => x2 ++ (put32_m (((hsum_l1 h r n (lst fun j => hsum_l1_c h r n (hsum_l1 h r n j))).2) x32))
noncomputable def hsum_l2 (h : Nat → Int) (r : List Int) (n : Int) : Nat → (List Int)
 | 0 => []
 | x32 + 1 => hsum_l2_s h r n x32 (hsum_l2 h r n x32)
noncomputable def hsum_v (h : Nat → Int) (r : List Int) (n : Int) : (List Int) := hsum_l2 h r n 8
noncomputable def hsum_m (h : Nat → Int) (r : List Int) (n : Int) : (List Int) := shut (hsum_v h r n)
theorem hsum_e (h : Nat → Int) (r : List Int) (n : Int) : hsum_m h r n = hsum_v h r n := shut_eq _
@[simp] theorem hsum_len (h : Nat → Int) (r : List Int) (n : Int) : (hsum_m h r n).length = 32 := by
 have key : ∀ i, (hsum_l2 h r n i).length = 4 * i := by
  intro i
  induction i with
  | zero => rfl
  | succ i ih => show (hsum_l2 h r n i ++ put32_m _).length = _; rw [List.length_append, put32_len, ih]; omega
 rw [hsum_e]
 exact key 8
noncomputable def c_hsum (h : Nat → Int) (r : List Int) (n : Int) : Con := ⟨[.cp 0 0], [(0, .ob 179 (chain [.ar .u32 8 h, .ls false [.int .u8] r, .v (.int .u64 n)]))], .sk 1, [(0, .ob 179 (chain [.ar .u32 8 h, .ls false [.int .u8] r, .v (.int .u64 n)])), (1, .sl 5 [.int .u8] (hsum_m h r n))]⟩
set_option maxRecDepth 100000 in
set_option maxHeartbeats 1000000 in
theorem hsum_ok (h : Nat → Int) (r : List Int) (n : Int) (hr : r.length ≤ 100000000000) : ConOk Tryz.prog 125 (c_hsum h r n) := by
 refine conOk_of rfl (nb := 1) Tryz.func125 rfl rfl Tryz.ntmps125 rfl rfl rfl fun g0 w0 ac gs ws hg0 hS => ?_
 have hS := hS.sp
 refine s0 [0, 2] [0] 1 hS fun ac gs ws hS => ?_
 refine wp_seq (s0 [0, 2, 8] [0] 1 hS fun ac gs ws hS => ?_)
 refine cond_f hS ?_
 refine wp_skip (then_n (sA [(3, .ov (.ar .u32 8 h)), (4, .call ⟨162, (c_over h), [], []⟩)] ⟨over_ok h, trivial⟩ (fun C => [(.ar .u32 8 h : D) = (.ar .u32 8 h), ndC C 4]) [0, 2, 3] [0, 1] 2 ⟨rfl, rfl, trivial⟩ hS fun ac gs ws hS => ?_))
 refine wp_seq (sA [(8, .call ⟨164, (c_padded r n), [], []⟩)] ⟨padded_ok r n (by first | omega | (simp only [List.length_append, List.length_drop, List.length_take, List.length_replicate, List.length_cons, List.length_nil, List.length_map, List.length_range] <;> omega) | (simp <;> omega)), trivial⟩ (fun C => [ndC C 8]) [2, 3, 4] [0, 1] 2 ⟨rfl, trivial⟩ hS fun ac gs ws hS => ?_)
 refine wp_block (loop_y (ι := Nat × (List Int) × (Nat → Int)) hg0 hS (fun z_ => match z_ with | (k1, x4, o3_0) => x4.length) (fun z_ => match z_ with | (k1, x4, o3_0) => [(2, .v (.slice none 0 0)), (3, .cp 1 0), (4, .ls false [.int .u8] x4)]) (fun z_ => match z_ with | (k1, x4, o3_0) => [(0, .ob 179 (chain [.ar .u32 8 h, .ls false [.int .u8] r, .v (.int .u64 n)])), (1, .ob 177 (chain [.ar .u32 8 o3_0]))]) (fun z_ => match z_ with | (k1, x4, o3_0) => ((x4, o3_0) = hsum_l1 h r n k1) ∧ (∀ j, j < k1 → hsum_l1_c h r n (hsum_l1 h r n j)) ∧ (x4.length % 64 = 0 ∧ x4.length ≤ r.length + 200) ∧ True) 2 (0, padded_m r n, over_m h) [(0, 0), (1, 1)] ⟨rfl, (fun j h => absurd h (Nat.not_lt_zero j)), (padded_len r n), trivial⟩ ?_)
 rintro ⟨k1, x4, o3_0⟩ ac gs ws ⟨hq1, hj1, p1, _⟩ hS
 refine wp_seq (s0 [2, 3, 4, 25] [0, 1] 2 hS fun ac gs ws hS => ?_)
 refine if_d ((0 : Int) < ((x4.length : Nat) : Int)) hS (fun h1 => ?_) (fun h1 => ?_)
 ·refine wp_skip (then_n (wp_seq (wp_block (rA [(0, .ov (.ar .u32 8 o3_0)), (2, .call ⟨163, (c_turn256 o3_0 x4), [], []⟩)] ⟨turn256_ok o3_0 x4 (by first | omega | (simp only [List.length_append, List.length_drop, List.length_take, List.length_replicate, List.length_cons, List.length_nil, List.length_map, List.length_range] <;> omega) | (simp <;> omega)), trivial⟩ (fun _ => [(.ar .u32 8 o3_0 : D) = (.ar .u32 8 o3_0), nd [.ar .u32 8 o3_0, .ls false [.int .u8] x4] []]) [2, 3, 4] [0, 1] 2 ⟨rfl, rfl, trivial⟩ hS fun ac gs ws hS => ?_))))
  refine block_n (then_n (rA [] trivial (fun _ => [bndP (some 64) none none x4.length x4.length]) [2, 3, 4] [0, 1] 2 ⟨⟨by simp only [nnI] <;> omega, by simp only [nnI] <;> omega, by simp only [nnI] <;> omega, by simp, by simp only [bl] <;> omega, by simp only [bl] <;> omega, by simp only [bl] <;> omega⟩, trivial⟩ hS fun ac gs ws hS => ?_))
  refine then_n ?_
  exact next_y hg0 hS (s := (k1, x4, o3_0)) (k1 + 1, x4.drop 64, turn256_m o3_0 x4) [(0, 0), (1, 1)] (show (x4.drop 64).length < x4.length from by rw [List.length_drop]; omega) ⟨(it_next (F := hsum_l1 h r n) (st := hsum_l1_s h r n) (fun _ => rfl) hq1 rfl), (lst_next hj1 (by rw [← hq1]; exact h1)), (by rw [List.length_drop]; omega), trivial⟩
 ·have hScur := hS
  obtain rfl := lst_eq (P := fun j => hsum_l1_c h r n (hsum_l1 h r n j)) (by rw [← hq1]; first | exact h1 | exact not_not_intro h1) hj1
  obtain rfl : (hsum_l1 h r n (lst fun j => hsum_l1_c h r n (hsum_l1 h r n j))).1 = x4 := Eq.symm (congrArg (fun z => z.1) hq1)
  obtain rfl : (hsum_l1 h r n (lst fun j => hsum_l1_c h r n (hsum_l1 h r n j))).2 = o3_0 := Eq.symm (congrArg (fun z => z.2) hq1)
  have hS := hScur
  clear hScur
  refine wp_exit (then_exit (then_exit (block_exit (then_n (wp_seq (s0 [2, 31, 32] [0] 2 hS fun ac gs ws hS => ?_))))))
  refine wp_block ?_
  obtain ⟨gs, hS⟩ := hS.nilk 2 5 [.int .u8]
  refine loop_y (ι := Nat × (List Int)) hg0 hS (fun z_ => match z_ with | (x32, x2) => 8 - x32) (fun z_ => match z_ with | (x32, x2) => [(2, .sk 2), (31, .ar .u32 8 ((hsum_l1 h r n (lst fun j => hsum_l1_c h r n (hsum_l1 h r n j))).2)), (32, .v (.int .i64 ((x32 : Nat) : Int)))]) (fun z_ => match z_ with | (x32, x2) => [(0, .ob 179 (chain [.ar .u32 8 h, .ls false [.int .u8] r, .v (.int .u64 n)])), (2, .sl 5 [.int .u8] x2)]) (fun z_ => match z_ with | (x32, x2) => (x32 ≤ 8) ∧ (x2 = hsum_l2 h r n x32) ∧ (x2.length = 4 * x32) ∧ True) 3 (0, []) [(0, 0), (2, 2)] ⟨(by omega), rfl, rfl, trivial⟩ ?_
  rintro ⟨x32, x2⟩ ac gs ws ⟨hx32, hq2, p2, _⟩ hS
  refine s0 [2, 31, 32, 33] [0, 2] 3 hS fun ac gs ws hS => ?_
  refine wp_seq ?_
  refine if_d (((x32 : Nat) : Int) < 8) hS (fun h2 => ?_) (fun h2 => ?_)
  ·refine wp_skip (then_n (wp_seq (wp_block (sA [] trivial (fun _ => [(0 : Int) ≤ ((x32 : Nat) : Int) ∧ (((x32 : Nat) : Int) : Int) < 8]) [2, 6, 31, 32] [0, 2] 3 ⟨by omega, trivial⟩ hS fun ac gs ws hS => ?_))))
   refine rA [(2, .call ⟨165, (c_put32 (((hsum_l1 h r n (lst fun j => hsum_l1_c h r n (hsum_l1 h r n j))).2) x32)), [], []⟩)] ⟨put32_ok (((hsum_l1 h r n (lst fun j => hsum_l1_c h r n (hsum_l1 h r n j))).2) x32), trivial⟩ (fun C => [ndC C 2, x2.length + (put32_m (((hsum_l1 h r n (lst fun j => hsum_l1_c h r n (hsum_l1 h r n j))).2) x32)).length ≤ 9223372036854775807, (x2.length + (put32_m (((hsum_l1 h r n (lst fun j => hsum_l1_c h r n (hsum_l1 h r n j))).2) x32)).length) * 1 ≤ 140737488355328]) [2, 31, 32] [0, 3] 4 ⟨rfl, by (simp only [put32_len, List.length_nil]; omega), by (simp only [put32_len, List.length_nil]; omega), trivial⟩ hS fun ac gs ws hS => ?_
   refine block_n (then_n (rA [(0, .oi ((x32 + 1 : Nat) : Int))] trivial (fun _ => [iadd .i64 ((x32 : Nat) : Int) 1 = ((x32 + 1 : Nat) : Int)]) [2, 31, 32] [0, 3] 4 ⟨by rw [iadd64 (by omega) (by omega)]; omega, trivial⟩ hS fun ac gs ws hS => ?_))
   refine then_n ?_
   exact next_y hg0 hS (s := (x32, x2)) (x32 + 1, x2 ++ (put32_m (((hsum_l1 h r n (lst fun j => hsum_l1_c h r n (hsum_l1 h r n j))).2) x32))) [(0, 0), (2, 3)] (show 8 - (x32 + 1) < 8 - x32 from by omega) ⟨(by omega), (it_next (F := hsum_l2 h r n) (st := hsum_l2_s h r n) (fun _ => rfl) hq2 rfl), (by rw [List.length_append, put32_len]; omega), trivial⟩
  ·have hScur := hS
   obtain rfl : 8 = x32 := by omega
   obtain rfl : hsum_l2 h r n 8 = x2 := Eq.symm (congrArg (fun z => z) hq2)
   have hS := hScur
   clear hScur
   refine wp_exit (then_exit (then_exit (block_exit (then_n (s0 [2] [0, 2] 3 hS fun ac gs ws hS => ?_)))))
   refine wp_ret ?_
   have hM : hsum_m h r n = hsum_l2 h r n 8 := hsum_e h r n
   obtain ⟨gs, hS⟩ := hS.rn [(0, 0), (1, 2)] [(2, .sk 1)] [(0, .ob 179 (chain [.ar .u32 8 h, .ls false [.int .u8] r, .v (.int .u64 n)])), (1, .sl 5 [.int .u8] (hsum_l2 h r n 8))] 2 hg0
   exact fin_y rfl (.inr rfl) hS [.sk 1] [(0, some (.ob 179 (chain [.ar .u32 8 h, .ls false [.int .u8] r, .v (.int .u64 n)]))), (1, some (.sl 5 [.int .u8] (hsum_l2 h r n 8)))] rfl (by show H1Ok _ [(0, .ob 179 (chain [.ar .u32 8 h, .ls false [.int .u8] r, .v (.int .u64 n)])), (1, .sl 5 [.int .u8] (hsum_m h r n))] true; rw [hM]; first | (simp only []; exact ⟨rfl, rfl, trivial⟩) | exact ⟨rfl, rfl, trivial⟩)

noncomputable def c_hsumf (h : Nat → Int) (r : List Int) (n : Int) : Con := ⟨[.cp 0 0], [(0, .ob 179 (chain [.ar .u32 8 h, .ls false [.int .u8] r, .v (.int .u64 n)]))], .ls false [.int .u8] (hsum_m h r n), [(0, .ob 179 (chain [.ar .u32 8 h, .ls false [.int .u8] r, .v (.int .u64 n)]))]⟩
theorem hsumf_ok (h : Nat → Int) (r : List Int) (n : Int) (hr : r.length ≤ 100000000000) : ConOk Tryz.prog 125 (c_hsumf h r n) := ConOk.frz [(0, .ob 179 (chain [.ar .u32 8 h, .ls false [.int .u8] r, .v (.int .u64 n)]))] 1 5 [.int .u8] (hsum_m h r n) (hsum_ok h r n hr) (by kernel_rfl)
noncomputable def c_hcopy (h : Nat → Int) (r : List Int) (n : Int) : Con := ⟨[.im (chain [.ar .u32 8 h, .ls false [.int .u8] r, .v (.int .u64 n)]) 0], [], .cp 0 0, [(0, .ob 179 (chain [.ar .u32 8 h, .ls false [.int .u8] r, .v (.int .u64 n)]))]⟩
set_option maxRecDepth 100000 in
set_option maxHeartbeats 1000000 in
theorem hcopy_ok (h : Nat → Int) (r : List Int) (n : Int) (hr : r.length ≤ 100000000000) : ConOk Tryz.prog 124 (c_hcopy h r n) := by
 refine conOk_of rfl (nb := 0) Tryz.func124 rfl rfl Tryz.ntmps124 rfl rfl rfl fun g0 w0 ac gs ws hg0 hS => ?_
 have hS := hS.sp
 refine s0 [0, 2] [] 0 hS fun ac gs ws hS => ?_
 refine wp_seq (s0 [0, 2, 4] [] 0 hS fun ac gs ws hS => ?_)
 refine cond_f hS ?_
 refine wp_skip (then_n (sA [(3, .ov (.ar .u32 8 h)), (8, .call ⟨81, (c_clone r), [], []⟩)] ⟨clone_ok r (by first | omega | (simp only [List.length_append, List.length_drop, List.length_take, List.length_replicate, List.length_cons, List.length_nil, List.length_map, List.length_range] <;> omega) | (simp <;> omega)), trivial⟩ (fun C => [(.ar .u32 8 h : D) = (.ar .u32 8 h), ndC C 8]) [2] [0] 1 ⟨rfl, rfl, trivial⟩ hS fun ac gs ws hS => ?_))
 refine wp_ret ?_
 exact fin_y rfl (.inr rfl) hS [.cp 0 0] [(0, some (.ob 179 (chain [.ar .u32 8 h, .ls false [.int .u8] r, .v (.int .u64 n)])))] rfl ⟨rfl, trivial⟩

end Go.Sx.Tryz
