/- General lemmas, walks. -/
import Derived.Recover
import Derived.LoopN
import Derived.RangeFuncFrom
import Derived.RangeFuncLeaves
import Derived.TacticsIn
import Derived.OrdersIn
import Derived.Test.YtmkplecnmklbfaaProg
import Derived.Test.YtmkplecnmklbfaaJ2PLost
set_option maxRecDepth 100000
set_option maxHeartbeats 1000000
set_option linter.unusedSimpArgs false
set_option linter.unusedVariables false
set_option linter.unnecessarySimpa false
set_option linter.unusedSectionVars false
namespace Go.Sx
open Go.Mi Go.RowKit
variable [Dfr]
section
variable {P : Program} {X X' : Nat → Prop} {N N' : Nat → Option Value} {w w' : World} {g g' : G}
theorem OS_same {k : Nat} {o : O} (hp : o.plain = true) (hn : ∀ i ∈ o.nm, g'.N i = g.N i) (hk : g'.N k = g.N k) (hf : g'.F k = g.F k) (hx : ∀ x, g'.X x → g.X x) (h : OS g w k o) : OS g' w k o := by
 have h1 : OS (⟨g'.N, g'.F, g.X⟩ : G) w k o := by
  have h0 := (OS_ren (g := g) (g' := g) (r := id) hp (fun _ _ => rfl) rfl rfl rfl).2 h
  exact (OS_ren (g := g) (g' := (⟨g'.N, g'.F, g.X⟩ : G)) (r := id) hp hn hk hf rfl).1 h0
 have gs : Goes g.X g'.N w (fun _ => False) g'.X g'.N w := ⟨Chp.refl _ _, fun _ h => h.elim, fun x h => .inl (hx x h), fun _ _ h => h⟩
 cases o with
 | ob ty d =>
  obtain ⟨b, c, h1, h2, h3, h4, h5⟩ := h1
  exact ⟨b, c, h1, h2, h3, sem_mv gs _ _ _ h4, h5⟩
 | sl ty e xs =>
  obtain ⟨v, ls, h1, h2, h3, h4, h5, h6⟩ := h1
  exact ⟨v, ls, h1, h2, h3, h4, h5.mono (rS_mv gs _), h6⟩
theorem lkC_mem' : ∀ {H : Hc} {k : Nat} {o : O}, lkC H k = some o → (k, o) ∈ H
 | (s, u) :: r, k, o, h => by
  simp only [lkC] at h
  by_cases e : s = k
  ·subst e; simp at h; subst h; exact List.mem_cons_self ..
  ·rw [beqf e] at h; exact List.mem_cons_of_mem _ (lkC_mem' h)
end
end Go.Sx
namespace Go.Sx
open Go.Mi Go.RowKit
variable [Dfr]
section
variable {P : Program}
theorem lkC_app {A B : Hc} {k : Nat} {o : O} (h : lkC A k = some o) : lkC (A ++ B) k = some o := by
 induction A with
 | nil => cases h
 | cons p A ih =>
  obtain ⟨s, u⟩ := p
  simp only [List.cons_append, lkC] at h ⊢
  by_cases e : s = k
  ·subst e; simpa using h
  ·rw [beqf e] at h ⊢; exact ih h
theorem lkC_last {A : Hc} {k : Nat} {o : O} (hk : memN k (keys A) = false) : lkC (A ++ [(k, o)]) k = some o := by
 induction A with
 | nil => simp [lkC]
 | cons p A ih =>
  obtain ⟨s, u⟩ := p
  have hne : ¬ s = k := fun e => by
   subst e
   rw [memN_iff.2 (by simp [keys])] at hk; cases hk
  simp only [List.cons_append, lkC]
  rw [beqf hne]
  refine ih ?_
  cases hm : memN k (keys A) with
  | false => rfl
  | true =>
   rw [memN_iff.2 (by simp only [keys, List.map_cons, List.mem_cons]; exact .inr (memN_iff.1 hm))] at hk
   cases hk
theorem ConOk.frz {f : FuncId} {ays : List D} {H0 : Hc} (H1 : Hc) (k te : Nat) (e : List Fk) (xs : List (RT e)) (h : ConOk P f ⟨ays, H0, .sk k, H1 ++ [(k, .sl te e xs)]⟩) (hk : (!(memN k (keys H1)) && H1.all fun p => allNmO (keys H1) p.2) = true) : ConOk P f ⟨ays, H0, .ls false e xs, H1⟩ := by
 refine ⟨h.1, fun vs g w hS hN hv => (h.2 vs g w hS hN hv).mono fun r w' he => ?_⟩
 simp only [Bool.and_eq_true, List.all_eq_true, Bool.not_eq_true'] at hk
 obtain ⟨c1, c2⟩ := hk
 obtain ⟨v, rfl, g', hp⟩ := he
 have hl := lkC_last (A := H1) (o := .sl te e xs) c1
 have up : ∀ j o, lkC H1 j = some o → lkC (H1 ++ [(k, .sl te e xs)]) j = some o := fun j o hj => lkC_app hj
 have ne : ∀ j o, lkC H1 j = some o → j ≠ k := fun j o hj e => by
  subst e
  have hm : j ∈ keys H1 := List.mem_map.2 ⟨_, lkC_mem' hj, rfl⟩
  rw [memN_iff.2 hm] at c1; cases c1
 let gg : G := ⟨g'.N, g'.F, fun x => g'.X x ∧ x ∉ g'.F k⟩
 obtain ⟨u, ls, n1, n2, n3, n4, n5, n6⟩ := hp.hs.os k _ hl
 have gs : Goes g'.X g'.N w' (fun _ => False) gg.X gg.N w' := ⟨Chp.refl _ _, fun _ h => h.elim, fun x h => .inl h.1, fun _ _ h => h⟩
 have hr : v = u := by
  obtain ⟨u', h1, h2, _⟩ := hp.r
  rw [n1] at h1
  cases h1
  exact (List.cons.inj h2).1
 refine ⟨v, rfl, gg, ⟨hp.go.ch, hp.go.s, fun x hx => hp.go.x x hx.1, fun x hx hn => ⟨hp.go.k x hx hn, fun hk => ?_⟩, hp.go.n, hp.go.f⟩, ?_, ⟨fun x hx => hp.hs.wf x hx.1, fun j o hj => ?_, fun j o hj b hb => ⟨hp.hs.own j o (up j o hj) b hb, fun hk => hp.hs.dis j o k _ (up j o hj) hl (ne j o hj) b hb hk⟩, fun j o j' o' hj hj' => hp.hs.dis j o j' o' (up j o hj) (up j' o' hj')⟩, fun j o hj => hp.fp j o (up j o hj)⟩
 ·rcases hp.fp k _ hl x hk with h1 | h1
  ·exact hn h1
  ·have := hS.wf x hx; omega
 ·subst hr
  refine ⟨v, ls, rfl, ⟨n4, by rw [flat_len n5.row, n5.len], ?_⟩, n5.mono (rS_mv gs _)⟩
  rcases n3.2 with ⟨e1, h0⟩ | ⟨b, cap, cur, e1, k2, k3, k4, k5, k6, k7⟩
  ·exact .inl ⟨rfl, h0, e1⟩
  ·refine .inr ⟨b, 0, cap, e1, k4, k5, fun hx => hx.2 (by rw [n2, e1]; simp [oblk]), OS.lt (hp.hs.os k _ hl) b (by rw [n2, e1]; simp [oblk]), ?_⟩
   rcases n3.at with ⟨e2, _⟩ | ⟨b', cap', e2, _, h3⟩
   ·rw [e1] at e2; cases e2
   ·rw [e1] at e2; cases e2; exact h3
 ·have hc := c2 (j, o) (lkC_mem' hj)
  simp only [allNmO, Bool.and_eq_true, List.all_eq_true] at hc
  exact OS_same (g := g') (g' := gg) hc.1 (fun _ _ => rfl) rfl rfl (fun x hx => hx.1) (hp.hs.os j o (up j o hj))
end
end Go.Sx
namespace Go.Sx
open Go.Mi Go.RowKit
variable [Dfr]
end Go.Sx
namespace Go.Sx
open Go.Mi Go.RowKit
variable [Dfr]
section
variable {P : Program} {g : G} {w : World} {H : Hp}
def ConOkT (T : List Value → World → (Value → World → Prop) → Prop) (c : Con) : Prop :=
 ∀ vs g w, HS (lkC c.H0) g w → (∀ k v, g.N k = some v → k ∈ keys c.H0) → sem g.X g.N w (chain c.args) true vs → T vs w fun v w' => ∃ g', CPost c g w v g' w'
theorem call_postT {T : List Value → World → (Value → World → Prop) → Prop} (hmono : ∀ {vs : List Value} {w : World} {R R' : Value → World → Prop}, T vs w R → (∀ v w', R v w' → R' v w') → T vs w R') {q : CR} (hq : CRok q) (hc : ConOkT T q.c) (hH0 : H0Ok H q.r q.c.H0) (hS : HS (resH (q.eff.rd ++ keys q.eff.wr) (lkH H)) g w) (hnew : ∀ p ∈ q.eff.nw, g.N p.1 = none) {vs : List Value} (hv : sem g.X g.N w (chain (q.c.args.map (D.ren q.r))) true vs) :
  T vs w (fun v w' => ∃ g', Post (lkH H) q.eff g w v g' w') := by
 have hr1 : ∀ k ∈ keys q.ρ, q.r k = rn q.ρ k := fun k hk => by simp only [CR.r, rn_app, hk, if_true]
 have hr2 : ∀ k ∈ keys q.σ, q.r k = rn q.σ k := fun k hk => by simp only [CR.r, rn_app, (hq.new k hk).2, if_false]
 have nd1 : (keys q.ρ).Nodup := by
  have := hq.nod
  simp only [keys, List.map_append] at this
  exact (List.nodup_append.1 this).1
 have nd2 : (keys q.σ).Nodup := by
  have := hq.nod
  simp only [keys, List.map_append] at this
  exact (List.nodup_append.1 this).2.1
 have hinj : ∀ i ∈ keys q.ρ, ∀ j ∈ keys q.ρ, q.r i = q.r j → i = j := fun i hi j hj e => by
  have h1 := inv_of hq.inj (rn_mem nd1 hi)
  have h2 := inv_of hq.inj (rn_mem nd1 hj)
  rw [← hr1 i hi, e, hr1 j hj, h2] at h1
  exact (Option.some.inj h1).symm
 have hwk : ∀ k ∈ keys q.ρ, q.r k ∈ keys q.eff.wr := fun k hk => by
  simp only [CR.eff, keys, List.map_map]
  exact List.mem_map.2 ⟨_, rn_mem nd1 hk, (hr1 k hk).symm⟩
 have hkw : ∀ k ∈ keys q.eff.wr, ∃ j ∈ keys q.ρ, k = q.r j := fun k hk => by
  simp only [CR.eff, keys, List.map_map] at hk
  obtain ⟨p, hp, rfl⟩ := List.mem_map.1 hk
  have h1 : p.1 ∈ keys q.ρ := List.mem_map.2 ⟨p, hp, rfl⟩
  exact ⟨p.1, h1, by rw [hr1 _ h1, rn_of nd1 hp]; rfl⟩
 have obj : ∀ k o, lkC q.c.H0 k = some o → lkH H (q.r k) = some (o.ren q.r) ∧ resH (q.eff.rd ++ keys q.eff.wr) (lkH H) (q.r k) = some (o.ren q.r) := fun k o ho => by
  have h1 := H0Ok_at hH0 ho
  exact ⟨h1, by simp only [resH, memN_iff.2 (List.mem_append_right q.eff.rd (hwk k (hq.h0 k o ho).1)), h1, cond_true]⟩
 have hsome : ∀ k ∈ keys q.ρ, ∃ v, g.N (q.r k) = some v := fun k hk => by
  have := lkC_keys.1 (hq.dom k hk)
  obtain ⟨o, ho⟩ := Option.ne_none_iff_exists'.1 this
  have h1 := hS.os _ _ (obj k o ho).2
  cases o with
  | ob ty ds => obtain ⟨b, c, k1, _⟩ := h1; exact ⟨_, k1⟩
  | sl ty e xs => obtain ⟨b, c, k1, _⟩ := h1; exact ⟨_, k1⟩
 -- what the callee sees
 let gc : G := ⟨fun k => if k ∈ keys q.ρ then g.N (q.r k) else none, fun k => g.F (q.r k), g.X⟩
 have gcN : ∀ k ∈ keys q.ρ, gc.N k = g.N (q.r k) := fun k hk => if_pos hk
 have hSc : HS (lkC q.c.H0) gc w := by
  refine ⟨hS.wf, fun k o ho => ?_, fun k o ho b hb => ?_, fun k o k' o' ho ho' hne b hb hb' => ?_⟩
  ·obtain ⟨h1, h2, h3⟩ := hq.h0 k o ho
   exact (OS_ren h2 (fun j hj => gcN j (h3 j hj)) (gcN k h1) rfl rfl).1 (hS.os _ _ (obj k o ho).2)
  ·exact hS.own _ _ (obj k o ho).2 b hb
  ·exact hS.dis _ _ _ _ (obj k o ho).2 (obj k' o' ho').2 (fun e => hne (hinj k (hq.h0 k o ho).1 k' (hq.h0 k' o' ho').1 e)) b hb hb'
 have hvc : sem gc.X gc.N w (chain q.c.args) true vs := by
  rw [chain_ren] at hv
  refine (sem_ren _ _ _ (chain_plain fun d hd => (hq.args d hd).1) fun k hk => ?_).1 hv
  obtain ⟨d, hd, hk⟩ := chain_nm hk
  exact gcN k ((hq.args d hd).2 k hk)
 refine hmono (hc vs gc w hSc (fun k v hk => ?_) hvc) fun v w' ⟨g', hp⟩ => ?_
 ·by_cases h : k ∈ keys q.ρ
  ·exact hq.dom k h
  ·rw [show gc.N k = none from if_neg h] at hk; cases hk
 -- behind it
 have hnone : ∀ k ∈ keys q.σ, g.N (q.r k) = none := fun k hk => by
  obtain ⟨o, ho⟩ := Option.ne_none_iff_exists'.1 (lkC_keys.1 (hq.new k hk).1)
  refine hnew (q.r k, o.ren q.r) ?_
  simp only [CR.eff, List.mem_filterMap]
  exact ⟨_, rn_mem nd2 hk, by rw [ho, Option.map_some, hr2 k hk]⟩
 let G' : G := ⟨fun k => match g.N k with
  | some v => some v
  | none => (inv q.σ k).bind g'.N, fun k => match g.N k with
  | some _ => g.F k
  | none => match inv q.σ k with
   | some j => g'.F j
   | none => g.F k, g'.X⟩
 have GN : ∀ k ∈ keys (q.ρ ++ q.σ), g'.N k = G'.N (q.r k) := fun k hk => by
  simp only [keys, List.map_append, List.mem_append] at hk
  rcases hk with hk | hk
  ·obtain ⟨v, hv⟩ := hsome k hk
   have h1 : gc.N k = some v := (gcN k hk).trans hv
   rw [hp.go.n k v h1]
   simp only [G', hv]
  ·simp only [G', hnone k hk]
   rw [hr2 k hk, inv_of hq.inj2 (rn_mem nd2 hk)]
   rfl
 have GF : ∀ k ∈ keys (q.ρ ++ q.σ), g'.F k = G'.F (q.r k) := fun k hk => by
  simp only [keys, List.map_append, List.mem_append] at hk
  rcases hk with hk | hk
  ·obtain ⟨v, hv⟩ := hsome k hk
   have h1 : gc.N k = some v := (gcN k hk).trans hv
   rw [hp.go.f k v h1]
   simp only [G', hv]
   rfl
  ·simp only [G', hnone k hk]
   rw [hr2 k hk, inv_of hq.inj2 (rn_mem nd2 hk)]
 have hft : ∀ b, q.c.foot gc b → q.eff.foot (lkH H) g b := fun b ⟨k, o, h1, h2⟩ => ⟨q.r k, hwk k (hq.h0 k o h1).1, _, (obj k o h1).1, h2⟩
 have hft2 : ∀ b, q.eff.foot (lkH H) g b → q.c.foot gc b := fun b ⟨k, h1, o, h2, h3⟩ => by
  obtain ⟨j, hj, rfl⟩ := hkw k h1
  obtain ⟨o', ho'⟩ := Option.ne_none_iff_exists'.1 (lkC_keys.1 (hq.dom j hj))
  exact ⟨j, o', ho', h3⟩
 have houts : ∀ k o, lkH q.eff.outs k = some o → ∃ j o', j ∈ keys (q.ρ ++ q.σ) ∧ k = q.r j ∧ lkC q.c.H1 j = some o' ∧ o = o'.ren q.r := by
  intro k o h
  have h := lkH_some.1 h
  rw [Eff.outs, lkO_app] at h
  cases hw : lkO q.eff.wr k with
  | some x =>
   rw [hw] at h
   cases h
   have : ∀ (a : Ren), (∀ p ∈ a, p ∈ q.ρ) → lkO (a.map fun p => (p.2, (lkC q.c.H1 p.1).map (O.ren q.r))) k = some (some o) → ∃ p ∈ q.ρ, p.2 = k ∧ (lkC q.c.H1 p.1).map (O.ren q.r) = some o := by
    intro a
    induction a with
    | nil => intro _ h; cases h
    | cons p a ih =>
     intro hm h
     simp only [List.map_cons, lkO] at h
     by_cases e : p.2 = k
     ·have hb : Nat.beq p.2 k = true := by rw [e]; exact Nat.beq_refl k
      rw [hb] at h
      simp only [cond_true, Option.some.injEq] at h
      exact ⟨p, hm p (List.mem_cons_self ..), e, h⟩
     ·rw [beqf e] at h; exact ih (fun p hp => hm p (List.mem_cons_of_mem _ hp)) h
   obtain ⟨p, hp1, hp2, hp3⟩ := this q.ρ (fun _ h => h) hw
   obtain ⟨o', h1, h2⟩ := Option.map_eq_some_iff.1 hp3
   have h3 : p.1 ∈ keys q.ρ := List.mem_map.2 ⟨p, hp1, rfl⟩
   exact ⟨p.1, o', by simp only [keys, List.map_append, List.mem_append]; exact .inl h3, by rw [hr1 _ h3, rn_of nd1 hp1, hp2], h1, h2.symm⟩
  | none =>
   rw [hw] at h
   have : ∀ (a : List (Nat × O)), lkO (a.map fun p => (p.1, some p.2)) k = some (some o) → (k, o) ∈ a := by
    intro a
    induction a with
    | nil => intro h; cases h
    | cons p a ih =>
     intro h
     obtain ⟨s, u⟩ := p
     simp only [List.map_cons, lkO] at h
     by_cases e : s = k
     ·subst e; simp at h; subst h; simp
     ·rw [beqf e] at h; exact List.mem_cons_of_mem _ (ih h)
   have hm := this _ h
   simp only [CR.eff, List.mem_filterMap] at hm
   obtain ⟨p, hp1, hp2⟩ := hm
   obtain ⟨o', h1, h2⟩ := Option.map_eq_some_iff.1 hp2
   cases h2
   have h3 : p.1 ∈ keys q.σ := List.mem_map.2 ⟨p, hp1, rfl⟩
   exact ⟨p.1, o', by simp only [keys, List.map_append, List.mem_append]; exact .inr h3, by rw [hr2 _ h3, rn_of nd2 hp1], h1, rfl⟩
 refine ⟨G', ⟨⟨⟨hp.go.ch.os, hp.go.ch.tape, hp.go.ch.output, hp.go.ch.size, fun b hb hn => hp.go.ch.blk b hb fun h => hn (hft b h)⟩, fun x hx => hp.go.s x (hft2 x hx), hp.go.x, fun x hx hn => hp.go.k x hx fun h => hn (hft x h), fun k u hk => by simp only [G', hk], fun k u hk => by simp only [G', hk]⟩, ?_, ⟨hp.hs.wf, fun k o h => ?_, fun k o h b hb => ?_, fun k o k' o' h h' hne b hb hb' => ?_⟩, fun k o h b hb => ?_, fun k u hk => ?_⟩⟩
 ·exact (sem_ren q.c.res _ _ hq.res.1 fun k hk => GN k (hq.res.2 k hk)).2 hp.r
 ·obtain ⟨j, o', h1, rfl, h2, rfl⟩ := houts k o h
  obtain ⟨h3, h4, h5⟩ := hq.h1 j o' h2
  exact (OS_ren h4 (fun i hi => GN i (h5 i hi)) (GN j h3) (GF j h3) rfl).2 (hp.hs.os j o' h2)
 ·obtain ⟨j, o', h1, rfl, h2, rfl⟩ := houts k o h
  rw [← GF j h1] at hb
  exact hp.hs.own j o' h2 b hb
 ·obtain ⟨j, o2, h1, rfl, h2, rfl⟩ := houts k o h
  obtain ⟨j', o2', h1', rfl, h2', rfl⟩ := houts k' o' h'
  rw [← GF j h1] at hb
  rw [← GF j' h1'] at hb'
  exact hp.hs.dis j o2 j' o2' h2 h2' (fun e => hne (by rw [e])) b hb hb'
 ·obtain ⟨j, o', h1, rfl, h2, rfl⟩ := houts k o h
  rw [← GF j h1] at hb
  exact (hp.fp j o' h2 b hb).imp (hft b) id
 ·simp only [G'] at hk
  cases hg : g.N k with
  | some v => rw [hg] at hk; simp only at hk; exact .inl hk
  | none =>
   rw [hg] at hk
   simp only at hk
   obtain ⟨j, hj, _⟩ := Option.bind_eq_some_iff.1 hk
   have hm := inv_mem hj
   have h3 : j ∈ keys q.σ := List.mem_map.2 ⟨_, hm, rfl⟩
   obtain ⟨o, ho⟩ := Option.ne_none_iff_exists'.1 (lkC_keys.1 (hq.new j h3).1)
   refine .inr (List.mem_map.2 ⟨(k, o.ren q.r), ?_, rfl⟩)
   simp only [CR.eff, List.mem_filterMap]
   exact ⟨_, hm, by rw [ho]; rfl⟩
def RetD (P : Program) (f : FuncId) (u u' : FrameMode) (vs : List Value) (w : World) (R : Value → World → Prop) : Prop := CallsD P f vs.toArray u w fun e x w' => ∃ v, e = .returned v ∧ x = u' ∧ R v w'
theorem RetD.mono {f : FuncId} {u u' : FrameMode} {vs : List Value} {w : World} {R R' : Value → World → Prop} (h : RetD P f u u' vs w R) (hr : ∀ v w', R v w' → R' v w') : RetD P f u u' vs w R' :=
 CallsD.mono h fun _ _ w' ⟨v, h1, h2, h3⟩ => ⟨v, h1, h2, hr v w' h3⟩
def ConOkD (P : Program) (f : FuncId) (u u' : FrameMode) (c : Con) : Prop := Go.Mi.Callee P f ∧ ConOkT (RetD P f u u') c
def pnd (v : Value) : FrameMode := .panicking [{ v, recovered := false }]
def rcd (v : Value) : FrameMode := .panicking [{ v, recovered := true }]
def rcv : FrameMode → Option (Value × FrameMode)
 | .returning => some (.nilIface, .returning)
 | .panicking [⟨v, false, false⟩] => some (v, rcd v)
 | _ => none
theorem rcv_ok {u u' : FrameMode} {x : Value} (h : rcv u = some (x, u')) {c₀ : Frame} {cs : List Frame} (hu : c₀.mode = u) :
  (recoverD (c₀ :: cs) = none ∧ x = .nilIface ∧ u' = u) ∨ recoverD (c₀ :: cs) = some (x, { c₀ with mode := u' } :: cs) := by
 unfold rcv at h
 split at h
 ·cases h
  exact .inl ⟨by simp [recoverD, hu], rfl, rfl⟩
 ·cases h
  exact .inr (by simp [recoverD, hu, rcd])
 ·cases h
theorem conD_of (hD : Dfr.ds = ([] : List Deferred)) {f : FuncId} {fn : Func} {rest : Code} {c : Con} {n nb id t0 t1 : Nat} {u u' : FrameMode} {x : Value} {ty ty' : TypeId} {ps ps' : String} {af af' : Array Edge} (hf : P.funcs[f]? = some fn) (hname : (fn.name == "runtime.NumGoroutine") = false)
  (hb : fn.body = some (.seq (.region id #[⟨some t0, .call ⟨.builtin .recover, #[], #[]⟩, ty, ps, af, none⟩, ⟨some t1, .assign (.tmp t0), ty', ps', af', none⟩] false) rest)) (hn : fn.ntmps = n) (hl : Nat.ble c.args.length t1 = true) (ht : Nat.blt t1 t0 = true) (ht2 : Nat.blt t0 n = true) (hone : c.args.all D.one = true) (hk : (keys c.H0).all (Nat.blt · nb) = true) (hr : rcv u = some (x, u'))
  (h : ∀ (g0 : G) (w0 : World) (a : Act) (g : G) (w : World), (∀ k v, g0.N k = some v → k ∈ keys c.H0) → St n (c.foot g0) g0 w0 ((t1, .v x) :: argL c.args 0) (hpC c.H0) nb a g w → rest.wp P (bodyPost P fn (Ret fun v w' => ∃ g', CPost c g0 w0 v g' w')) a w) : ConOkD P f u u' c := by
 refine ⟨⟨fn, hf, hname, by rw [hb]; rfl⟩, fun vs g w hS hN hv => ?_⟩
 have hlen : ∀ {ds : List D} {vs : List Value}, (∀ d ∈ ds, d.one = true) → sem g.X g.N w (chain ds) true vs → vs.length = ds.length := by
  intro ds
  induction ds with
  | nil => intro vs _ h; have : vs = [] := h; subst this; rfl
  | cons d ds ih =>
   rintro vs ho ⟨l1, l2, rfl, h1, h2⟩
   obtain ⟨v, rfl⟩ := sem_one h1 (ho d (List.mem_cons_self ..))
   simp [ih (fun e he => ho e (List.mem_cons_of_mem _ he)) h2]
 have ho := List.all_eq_true.1 hone
 have hvl := hlen ho hv
 have hl := Nat.le_of_ble_eq_true hl
 rw [Nat.blt_eq] at ht ht2
 let a0 : Act := { tmps := vs.toArray ++ Array.replicate (fn.ntmps - vs.toArray.size) undef, defers := [] }
 have hF0 : Frm a0 n (vs.zipIdx.map fun p => (p.2, p.1)) := by subst hn; exact Frm.enter hD (by omega)
 -- the first two
 let a1 : Act := (a0.put (some t0) x).put (some t1) x
 have get1 : ∀ t, a1.tmps.getD t undef = if t = t1 then x else if t = t0 then x else a0.tmps.getD t undef := fun t => by
  have hs := hF0.size
  by_cases e1 : t = t1
  ·subst e1; simp [a1, Act.put, hs, show t < n by omega]
  ·rw [if_neg e1]
   have : a1.tmps.getD t undef = (a0.put (some t0) x).tmps.getD t undef := by
    simp [a1, Act.put, Array.getElem?_setIfInBounds_ne (fun e => e1 e.symm : t1 ≠ t)]
   rw [this]
   by_cases e0 : t = t0
   ·subst e0; simp [Act.put, hs, ht2]
   ·rw [if_neg e0]; simp [Act.put, Array.getElem?_setIfInBounds_ne (fun e => e0 e.symm : t0 ≠ t)]
 have hSt : St n (c.foot g) g w ((t1, .v x) :: argL c.args 0) (hpC c.H0) nb a1 g w := by
  refine ⟨by simp [a1, Act.put, hF0.size], by simp [a1, Act.put, a0, hD], fun t d ht' => ?_, ?_, Go.refl _ _ _ fun x ⟨k, o, h1, h2⟩ => hS.own k o h1 x h2, hS.wf, fun k o hk b hb => .inl ⟨k, o, by rw [← lkH_hpC]; exact hk, hb⟩, fun k v hkv => ?_⟩
  ·simp only [lkD] at ht'
   by_cases e : t1 = t
   ·subst e
    simp at ht'
    subst ht'
    show [_] = [x]
    rw [get1, if_pos rfl]
   ·rw [beqf e] at ht'
    have key : ∀ (ds : List D) (us : List Value) (i : Nat), (∀ d ∈ ds, d.one = true) → sem g.X g.N w (chain ds) true us → (∀ s v, lk ((us.zipIdx i).map fun p => (p.2, p.1)) s = some v → a0.tmps.getD s undef = v) → lkD (argL ds i) t = some d → Sm g w d (a0.tmps.getD t undef) ∧ t < i + ds.length := by
     intro ds
     induction ds with
     | nil => intro us i _ _ _ ht; cases ht
     | cons e ds ih =>
      rintro us i ho ⟨l1, l2, rfl, h1, h2⟩ hg ht
      obtain ⟨v, rfl⟩ := sem_one h1 (ho e (List.mem_cons_self ..))
      simp only [argL, lkD] at ht
      by_cases e' : i = t
      ·subst e'
       simp at ht
       subst ht
       have := hg i v (by simp [lk])
       rw [this]
       exact ⟨h1, by simp⟩
      ·rw [beqf e'] at ht
       have hg' : ∀ s v, lk ((l2.zipIdx (i + 1)).map fun p => (p.2, p.1)) s = some v → a0.tmps.getD s undef = v := by
        intro s v hs
        refine hg s v ?_
        simp only [List.singleton_append, List.zipIdx_cons, List.map_cons, lk]
        have hne : ¬ i = s := fun es => by
         subst es
         have : ∀ (us : List Value) (j : Nat), i < j → lk ((us.zipIdx j).map fun p => (p.2, p.1)) i = none := by
          intro us
          induction us with
          | nil => intro j _; rfl
          | cons u us ih2 =>
           intro j hj
           simp only [List.zipIdx_cons, List.map_cons, lk]
           rw [beqf (show ¬ j = i by omega)]
           exact ih2 (j + 1) (by omega)
         rw [this l2 (i + 1) (by omega)] at hs
         cases hs
        rw [beqf hne]
        exact hs
       obtain ⟨q1, q2⟩ := ih l2 (i + 1) (fun q hq => ho q (List.mem_cons_of_mem _ hq)) h2 hg' ht
       exact ⟨q1, by simp only [List.length_cons]; omega⟩
    obtain ⟨q1, q2⟩ := key c.args vs 0 ho hv hF0.get ht'
    rw [get1, if_neg (fun e' => e e'.symm), if_neg (by omega)]
    exact q1
  ·exact hS.sub fun k o hk => by rw [← lkH_hpC]; exact hk
  ·have := List.all_eq_true.1 hk k (hN k v hkv)
   simpa [Nat.blt_eq] using this
 have hrest := h g w a1 g w hN hSt
 refine callsD_of_wpS hf hb fun c₀ cs hu => ?_
 refine wpS_seq (wpS_region ?_)
 have hfin : ∀ cs', cs' = { c₀ with mode := u' } :: cs → rest.wpS P (bodyPostS P fn c₀ cs fun e x w' => ∃ v, e = .returned v ∧ x = u' ∧ ∃ g', CPost c g w v g' w') a1 cs' w := fun cs' hcs => by
  subst hcs
  intro b k hb' hro
  obtain ⟨e, a', w', hq, harr⟩ := hrest b k ({ c₀ with mode := u' } :: cs)
  refine ⟨e, a', { c₀ with mode := u' } :: cs, w', ?_, harr⟩
  cases e with
  | normal => obtain ⟨h1, v, h2, v2, h3, h4⟩ := hq; cases h3; exact ⟨h1, u', rfl, v, h2, v, rfl, rfl, h4⟩
  | ret => obtain ⟨h1, v, h2, v2, h3, h4⟩ := hq; cases h3; exact ⟨h1, u', rfl, v, h2, v, rfl, rfl, h4⟩
  | panic chain => obtain ⟨h1, v2, h3, _⟩ := hq; cases h3
  | exit id => exact hq.elim
  | goto l => exact hq.elim
  | outgrown => obtain ⟨v2, h3, _⟩ := hq; cases h3
 have hg0' : (a0.put (some t0) x).eval (.tmp t0) = x := by
  show (a0.put (some t0) x).tmps.getD t0 undef = x
  simp [Act.put, hF0.size, ht2]
 have hcm : ({ c₀ with mode := u } : Frame) = c₀ := by subst hu; rfl
 have hx := rcv_ok hr (cs := cs) hu
 have hstep : wpOpsS P #[⟨some t0, .call ⟨.builtin .recover, #[], #[]⟩, ty, ps, af, none⟩, ⟨some t1, .assign (.tmp t0), ty', ps', af', none⟩] (Exit.thenS (rest.wpS P (bodyPostS P fn c₀ cs fun e x w' => ∃ v, e = .returned v ∧ x = u' ∧ ∃ g', CPost c g w v g' w')) (bodyPostS P fn c₀ cs fun e x w' => ∃ v, e = .returned v ∧ x = u' ∧ ∃ g', CPost c g w v g' w')) [0, 1] a0 (c₀ :: cs) w := by
  rcases hx with ⟨h1, h2, h3⟩ | h1
  ·subst h2
   simp only [wpOpsS, Region.wanted, execOp, resolve, invoke, builtin, List.getElem?_toArray, List.getElem?_cons_zero, List.getElem?_cons_succ, Sem.run_bind, Sem.run_pure, Result.andThen_ok, h1, hg0', Oper.upon, if_true, Array.map_empty]
   exact hfin _ (by rw [h3, hcm])
  ·simp only [wpOpsS, Region.wanted, execOp, resolve, invoke, builtin, List.getElem?_toArray, List.getElem?_cons_zero, List.getElem?_cons_succ, Sem.run_bind, Sem.run_pure, Result.andThen_ok, h1, hg0', Oper.upon, if_true, Array.map_empty]
   exact hfin _ rfl
 exact hstep
end
end Go.Sx
namespace Go.Sx
open Go.Mi Go.RowKit
variable [Dfr]
structure Base (S1 : Nat → Prop) (g1 : G) (w1 : World) (S0 : Nat → Prop) (g0 : G) (w0 : World) : Prop where
 s : ∀ y, S1 y → S0 y ∨ w0.heap.size ≤ y
 go : Go S0 g0 w0 g1 w1
 wf : Wf g0 w0
def footH (H : Hp) (g : G) : Nat → Prop := fun b => ∃ k o, lkH H k = some o ∧ b ∈ g.F k
section
variable {P : Program} {n : Nat} {L : DL} {H : Hp} {S0 : Nat → Prop} {g0 g : G} {w0 w : World} {nb : Nat} {a : Act} {Q : Exit → Act → World → Prop}
theorem lk_zip_none {t : Nat} : ∀ (us : List Value) (j : Nat), t < j → lk ((us.zipIdx j).map fun p => (p.2, p.1)) t = none
 | [], _, _ => rfl
 | u :: us, j, h => by
  simp only [List.zipIdx_cons, List.map_cons, lk]
  rw [beqf (show ¬ j = t by omega)]
  exact lk_zip_none us (j + 1) (by omega)
theorem St.begin (hD : Dfr.ds = ([] : List Deferred)) {c : Con} {vs : List Value} (hl : Nat.ble c.args.length n = true) (hone : c.args.all D.one = true) (hk : (keys c.H0).all (Nat.blt · nb) = true) (hS : HS (lkC c.H0) g w) (hN : ∀ k v, g.N k = some v → k ∈ keys c.H0) (hv : sem g.X g.N w (chain c.args) true vs) :
  St n (c.foot g) g w (argL c.args 0) (hpC c.H0) nb { tmps := vs.toArray ++ Array.replicate (n - vs.toArray.size) undef, defers := [] } g w := by
 have hlen : ∀ {ds : List D} {vs : List Value}, (∀ d ∈ ds, d.one = true) → sem g.X g.N w (chain ds) true vs → vs.length = ds.length := by
  intro ds
  induction ds with
  | nil => intro vs _ h; have : vs = [] := h; subst this; rfl
  | cons d ds ih =>
   rintro vs ho ⟨l1, l2, rfl, h1, h2⟩
   obtain ⟨v, rfl⟩ := sem_one h1 (ho d (List.mem_cons_self ..))
   simp [ih (fun e he => ho e (List.mem_cons_of_mem _ he)) h2]
 have ho := List.all_eq_true.1 hone
 have hvl := hlen ho hv
 have hl := Nat.le_of_ble_eq_true hl
 have hF : Frm { tmps := vs.toArray ++ Array.replicate (n - vs.toArray.size) undef, defers := [] } n (vs.zipIdx.map fun p => (p.2, p.1)) := Frm.enter hD (by omega)
 refine ⟨hF.size, hF.defers, fun t d ht => ?_, hS.sub fun k o hk => by rw [← lkH_hpC]; exact hk, Go.refl _ _ _ fun x ⟨k, o, h1, h2⟩ => hS.own k o h1 x h2, hS.wf, fun k o hk b hb => .inl ⟨k, o, by rw [← lkH_hpC]; exact hk, hb⟩, fun k v hkv => ?_⟩
 ·have key : ∀ (ds : List D) (us : List Value) (i : Nat), (∀ d ∈ ds, d.one = true) → sem g.X g.N w (chain ds) true us → (∀ s v, lk ((us.zipIdx i).map fun p => (p.2, p.1)) s = some v → Array.getD (vs.toArray ++ Array.replicate (n - vs.toArray.size) undef) s undef = v) → lkD (argL ds i) t = some d → Sm g w d (Array.getD (vs.toArray ++ Array.replicate (n - vs.toArray.size) undef) t undef) := by
   intro ds
   induction ds with
   | nil => intro us i _ _ _ ht; cases ht
   | cons e ds ih =>
    rintro us i ho ⟨l1, l2, rfl, h1, h2⟩ hg ht
    obtain ⟨v, rfl⟩ := sem_one h1 (ho e (List.mem_cons_self ..))
    simp only [argL, lkD] at ht
    by_cases e' : i = t
    ·subst e'
     simp at ht
     subst ht
     have := hg i v (by simp [lk])
     rw [this]
     exact h1
    ·rw [beqf e'] at ht
     have hg' : ∀ s v, lk ((l2.zipIdx (i + 1)).map fun p => (p.2, p.1)) s = some v → Array.getD (vs.toArray ++ Array.replicate (n - vs.toArray.size) undef) s undef = v := by
      intro s v hs
      refine hg s v ?_
      simp only [List.singleton_append, List.zipIdx_cons, List.map_cons, lk]
      have hne : ¬ i = s := fun es => by subst es; rw [lk_zip_none l2 (i + 1) (by omega)] at hs; cases hs
      rw [beqf hne]
      exact hs
     exact ih l2 (i + 1) (fun q hq => ho q (List.mem_cons_of_mem _ hq)) h2 hg' ht
  exact key c.args vs 0 ho hv hF.get ht
 ·have := List.all_eq_true.1 hk k (hN k v hkv)
  simpa [Nat.blt_eq] using this
theorem conOk_ofDf (hD : Dfr.ds = ([] : List Deferred)) {f : FuncId} {fn : Func} {code : Code} {c : Con} {nb : Nat} (hf : P.funcs[f]? = some fn) (hname : (fn.name == "runtime.NumGoroutine") = false) (hb : fn.body = some code) (hn : fn.ntmps = n) (hl : Nat.ble c.args.length n = true) (hone : c.args.all D.one = true) (hk : (keys c.H0).all (Nat.blt · nb) = true)
  (h : ∀ (g0 : G) (w0 : World) (a : Act) (g : G) (w : World), (∀ k v, g0.N k = some v → k ∈ keys c.H0) → St n (c.foot g0) g0 w0 (argL c.args 0) (hpC c.H0) nb a g w → code.wp P (bodyPostD P fn (Ret fun v w' => ∃ g', CPost c g0 w0 v g' w')) a w) : ConOk P f c := by
 refine ⟨⟨fn, hf, hname, by rw [hb]; rfl⟩, fun vs g w hS hN hv => ?_⟩
 subst hn
 exact calls_of_wp_defers hf hb (h g w _ g w hN (St.begin hD hl hone hk hS hN hv))
theorem defer_x (hD0 : Dfr.ds = ([] : List Deferred)) {id t : Nat} {f : FuncId} {caps : List Operand} {cs : List D} {ty ty' : TypeId} {ps ps' : String} {af af' : Array Edge} (hS : St n S0 g0 w0 L H nb a g w) (hc : opsD L caps = some cs) (ht : (lkD L t).isNone = true) (ht2 : Nat.blt t n = true)
  (h : ∀ (D : Dfr) (vs : List Value) (a' : Act), D.ds = [⟨.fn (.func f) vs.toArray, #[]⟩] → sem g.X g.N w (chain cs) true vs → Base (footH H g) g w S0 g0 w0 → @SS D n (footH H g) g w (lkD L) (lkH H) (· < nb) a' g w → Q .normal a' w) :
  (Code.region id #[⟨some t, .makeFunc (.func f) #[] caps.toArray, ty, ps, af, none⟩, ⟨none, .defer ⟨.value (.tmp t), #[], #[]⟩, ty', ps', af', none⟩] false).wp P Q a w := by
 obtain ⟨vs, hvs, hsem, _⟩ := opsD_ev hS.fx.get hc
 have hev : caps.toArray.map a.eval = vs.toArray := by
  have := hS.fx.frm.evals hvs
  rw [← this, ← List.map_toArray]
 have ht' : lkD L t = none := Option.isNone_iff_eq_none.1 ht
 rw [Nat.blt_eq] at ht2
 let a1 : Act := a.put (some t) (.func (.func f) #[] vs.toArray)
 have g1 : a1.tmps.getD t undef = .func (.func f) #[] vs.toArray := by simp [a1, Act.put, hS.size, ht2]
 let dd : Deferred := ⟨.fn (.func f) vs.toArray, #[]⟩
 let a2 : Act := { a1 with defers := dd :: a1.defers }
 have hSS : @SS ⟨[dd]⟩ n (footH H g) g w (lkD L) (lkH H) (· < nb) a2 g w := by
  refine @SS.mk ⟨[dd]⟩ _ _ _ _ _ _ _ _ _ _ (by simp [a2, a1, Act.put, hS.size]) (by show dd :: a.defers = [dd]; rw [hS.defers, hD0]) (fun u d hu => ?_) hS.hs (Go.refl _ _ _ fun x ⟨k, o, h1, h2⟩ => hS.hs.own k o h1 x h2) hS.hs.wf (fun k o hk b hb => .inl ⟨k, o, hk, hb⟩) hS.nm
  have hne : t ≠ u := fun e => by subst e; rw [ht'] at hu; cases hu
  have : a1.tmps.getD u undef = a.tmps.getD u undef := by simp [a1, Act.put, Array.getElem?_setIfInBounds_ne hne]
  show Sm g w d (a1.tmps.getD u undef)
  rw [this]
  exact hS.fr u d hu
 have fin := h ⟨[dd]⟩ vs a2 rfl hsem ⟨fun y ⟨k, o, h1, h2⟩ => hS.fp k o h1 y h2, hS.go, hS.wf0⟩ hSS
 refine wp_region ?_
 have key : wpOps P #[⟨some t, .makeFunc (.func f) #[] caps.toArray, ty, ps, af, none⟩, ⟨none, .defer ⟨.value (.tmp t), #[], #[]⟩, ty', ps', af', none⟩] Q [0, 1] a w := by
  simp only [wpOps, Region.wanted, List.getElem?_toArray, List.getElem?_cons_zero, List.getElem?_cons_succ, if_true, Oper.wp, execOp, Instr.makeFunc, Array.map_empty, Sem.run_bind, Sem.run_pure, Result.andThen_ok, Oper.upon_value, hev]
  have e1 : (a.put (some t) (.func (.func f) #[] vs.toArray)).eval (.tmp t) = .func (.func f) #[] vs.toArray := g1
  simp only [resolve, e1, Deferred.ofValue, Sem.run_bind, Sem.run_pure, Result.andThen_ok, Oper.upon_defer, Array.map_empty, Array.append_empty]
  exact .inl (.inl fin)
 exact key
theorem invoke_fn {f : FuncId} {xs : Array Value} (hc : Go.Mi.Callee P f) : (invoke (.fn (.func f) xs) #[]).run P w = .ok (.enter f xs) w := by
 obtain ⟨fn, h1, h2, h3⟩ := hc.ok
 simp only [invoke, callFunc, run_program, h1, h2, h3, Sem.run_bind, Result.andThen_ok, Array.empty_append]
 simp only [Bool.false_eq_true, if_false, Sem.run_pure]
theorem fin_b {S1 : Nat → Prop} {g1 : G} {w1 : World} {fn : Func} {c : Con} {ds : List D} (hB : Base S1 g1 w1 (c.foot g0) g0 w0) (hS : St n S1 g1 w1 L H nb a g w) (h : exRvs P L H fn.results.toList = some ds) (hr : weak (resD ds) c.res = c.res) (h1 : H1Ok H c.H1 true) :
  ∃ v, (results fn a.tmps).run P w = .ok v w ∧ ∃ g', CPost c g0 w0 v g' w := by
 obtain ⟨v, h2, h3⟩ := res_ok hS h
 have h4 : Sm g w c.res v := hr ▸ weak_ok h3
 have key : ∀ k o, lkC c.H1 k = some o → lkH H k = some o := by
  have : ∀ (r : Hc), H1Ok H r true → ∀ k o, lkC r k = some o → lkH H k = some o := by
   intro r
   induction r with
   | nil => intro _ k o h; cases h
   | cons p r ih =>
    obtain ⟨s, u⟩ := p
    intro hh k o h
    simp only [lkC] at h
    by_cases e : s = k
    ·subst e; simp at h; subst h; exact hh.1
    ·rw [beqf e] at h; exact ih hh.2 k o h
  exact this c.H1 h1
 refine ⟨v, h2, g, hB.go.trans hS.go hB.wf hB.s, h4, hS.hs.sub key, fun k o hk b hb => ?_⟩
 rcases hS.fp k o (key k o hk) b hb with h5 | h5
 ·exact hB.s b h5
 ·exact .inr (Nat.le_trans hB.go.ch.size h5)
theorem leaves_d {S1 : Nat → Prop} {g1 : G} {w1 : World} {fn : Func} {c : Con} {ds : List D} {u u' : FrameMode} {cs : List D} {vs : List Value} (q : CR) (Ho : Hp) (hB : Base S1 g1 w1 (c.foot g0) g0 w0) (hS : St n S1 g1 w1 L H nb a g w) (hcv : sem g1.X g1.N w1 (chain cs) true vs)
  (hu : u ≠ .run) (hset : settle u' = .returning) (hq : q.chk = true) (hqs : q.σ = []) (hc : ConOkD P q.f u u' q.c) (hcs : cs = q.c.args.map (D.ren q.r)) (hH0 : H0Ok H q.r q.c.H0) (hHo : Ho = q.eff.outs ++ H)
  (h : exRvs P L Ho fn.results.toList = some ds) (hr : weak (resD ds) c.res = c.res) (h1 : H1Ok Ho c.H1 true) :
  Leaves P fn a.tmps (Ret fun v w' => ∃ g', CPost c g0 w0 v g' w') [⟨.fn (.func q.f) vs.toArray, #[]⟩] u w := by
 have hq' := CRok.of hq
 have hv : sem g.X g.N w (chain (q.c.args.map (D.ren q.r))) true vs := by
  rw [← hcs]; exact sem_mv hS.go.goes _ _ _ hcv
 have hnw : q.eff.nw = [] := by simp only [CR.eff, hqs, List.filterMap_nil]
 have hHS : HS (resH (q.eff.rd ++ keys q.eff.wr) (lkH H)) g w := hS.hs.sub fun k o hk => by
  unfold resH at hk
  cases hm : memN k (q.eff.rd ++ keys q.eff.wr) with
  | true => rw [hm] at hk; exact hk
  | false => rw [hm] at hk; cases hk
 have hcall := call_postT (T := RetD P q.f u u') (fun {_ _ _ _} h hr => RetD.mono h hr) hq' hc.2 hH0 hHS (fun p hp => by rw [hnw] at hp; cases hp) hv
 refine leaves_cons hu (invoke_fn hc.1) (CallsD.mono hcall ?_)
 rintro e x w' ⟨v, rfl, rfl, g', hp⟩
 simp only
 rw [hset]
 have hS' : St n S1 g1 w1 L Ho nb a g' w' := by
  have := SS.step (dst := none) (L' := lkD L) (H' := lkH Ho) (nm' := (· < nb)) hS (fun t ht => by cases ht) hp (fun t d ht => .inr ⟨by simp, ht⟩) (fun k o hk => ?_) (fun k hk => hk.elim id fun hk => by rw [hnw] at hk; cases hk)
  ·exact this
  ·subst hHo
   have hk := lkH_some.1 hk
   rw [lkO_app] at hk
   cases hm : lkO q.eff.outs k with
   | some o' => rw [hm] at hk; cases hk; exact .inl (lkH_some.2 hm)
   | none => rw [hm] at hk; exact .inr ⟨fun hh => lkO_keys.1 hh hm, lkH_some.2 hk⟩
 obtain ⟨r, k1, k2⟩ := fin_b hB hS' h hr h1
 exact ⟨r, k1, r, rfl, k2⟩
theorem fin_dr {fn : Func} {R : Ending → World → Prop} {ds : List Deferred} {S1 : Nat → Prop} {e : Exit} (he : e = .normal ∨ e = .ret) (hS : St n S1 g0 w0 L H nb a g w) (hD : Dfr.ds = ds) (h : Leaves P fn a.tmps R ds .returning w) : bodyPostD P fn R e a w := by
 subst hD
 have h2 : Leaves P fn a.tmps R a.defers .returning w := by rw [hS.defers]; exact h
 rcases he with rfl | rfl <;> exact h2
theorem fin_dp {fn : Func} {R : Ending → World → Prop} {ds : List Deferred} {S1 : Nat → Prop} {v : Value} (hS : St n S1 g0 w0 L H nb a g w) (hD : Dfr.ds = ds) (h : Leaves P fn a.tmps R ds (pnd v) w) : bodyPostD P fn R (.panic [{ v, recovered := false }]) a w := by
 subst hD
 show Leaves P fn a.tmps R a.defers _ w
 rw [hS.defers]
 exact h
theorem Sm.v_of {x v : Value} (h : Sm g w (.v x) v) : v = x := (List.cons.inj h).1
end
end Go.Sx
namespace Go.Sx
open Go.Mi Go.RowKit
variable [Dfr]
def lkR3 : List (Nat × CR × List Nat) → Nat → Option (CR × List Nat)
 | [], _ => none
 | (s, v) :: r, t => bif Nat.beq s t then some v else lkR3 r t
def C3Ok (P : Program) : List (Nat × CR × List Nat) → Prop
 | [] => True
 | (_, q, _) :: r => ConOk P q.f q.c ∧ C3Ok P r
theorem C3Ok.at {P : Program} : ∀ {C : List (Nat × CR × List Nat)} {i : Nat} {q : CR} {ks : List Nat}, C3Ok P C → lkR3 C i = some (q, ks) → ConOk P q.f q.c
 | (s, x) :: r, i, q, ks, h, hl => by
  simp only [lkR3] at hl
  by_cases e : s = i
  ·subst e; simp at hl; subst hl; exact h.1
  ·rw [beqf e] at hl; exact h.2.at hl
end Go.Sx
namespace Go.Sx
open Go.Mi Go.RowKit
variable [Dfr]
theorem rounds_s {P : Program} {c : Code} {Q : Exit → Act → World → Prop} {n : Nat} {a : Act} {w : World} (h : c.wp P (Exit.then (Code.rounds P c Q n) Q) a w) : Code.rounds P c Q (n + 1) a w := h
end Go.Sx
namespace Go.Sx
open Go.Mi Go.RowKit
variable [Dfr]
abbrev Sg := DL × Hp
def Sp (n : Nat) (S0 : Nat → Prop) (g0 : G) (w0 : World) (σ : Sg) (nb : Nat) (a : Act) (g : G) (w : World) : Prop := St n S0 g0 w0 σ.1 σ.2 nb a g w
abbrev Px := Option (List Prop × DL × Hp × Nat)
def xS : Px → Sg
 | some (_, L, H, _) => (L, H)
 | none => ([], [])
def xP (r : Px) : Option (List Prop × Nat) := r.map fun x => (x.1, x.2.2.2)
theorem xP_of {r : Px} {ps : List Prop} {nb : Nat} (h : xP r = some (ps, nb)) : r = some (ps, (xS r).1, (xS r).2, nb) := by
 obtain ⟨⟨p, L, H, m⟩, rfl, h2⟩ := Option.map_eq_some_iff.1 h
 simp only [Prod.mk.injEq] at h2
 obtain ⟨rfl, rfl⟩ := h2
 rfl
abbrev vi (x : Int) : D := .v (.int .i64 x)
abbrev lb (x : List Int) : D := .ls false [.int .u8] x
theorem lnn {p : Prop} (h : p := by first | omega | (simp only [List.length_append, List.length_drop, List.length_take, List.length_replicate, List.length_cons, List.length_nil, List.length_map, List.length_range] <;> omega) | (simp <;> omega)) : p := h
theorem omm {p : Prop} (h : p := by omega) : p := h
theorem asm {p : Prop} (h : p := by assumption) : p := h
section
variable {P : Program} {n : Nat} {L : DL} {H : Hp} {σ : Sg} {S0 : Nat → Prop} {g0 g : G} {w0 w : World} {nb : Nat} {a : Act} {Q : Exit → Act → World → Prop}
theorem SS.sp (hS : St n S0 g0 w0 L H nb a g w) : Sp n S0 g0 w0 (L, H) nb a g w := hS
theorem Sp.st (hS : Sp n S0 g0 w0 σ nb a g w) : St n S0 g0 w0 σ.1 σ.2 nb a g w := hS
abbrev plS (n : Nat) (ops : List Oper) (ex : Ex) (σ : Sg) (nb : Nat) (kL kH : List Nat) : Px := plX n ops ex σ.1 σ.2 nb kL kH
theorem reg_y {id : Nat} {dr : Bool} {ops : List Oper} {ex : Ex} (hm : P.follows .mixedOrders = true) (hex : ExOk P n ex) (ps : List Prop) (kL kH : List Nat) (nb' : Nat) (hp : AllP ps) (hS : Sp n S0 g0 w0 σ nb a g w) (hend : ∀ a g w, Sp n S0 g0 w0 (xS (plS n ops ex σ nb kL kH)) nb' a g w → Q .normal a w)
  (h : xP (plS n ops ex σ nb kL kH) = some (ps, nb')) (hle : Nat.ble nb nb' = true) : (Code.region id ops.toArray dr).wp P Q a w :=
 region_x hm hex (xP_of h) hp hle hS hend
theorem Sp.rv (hS : Sp n S0 g0 w0 σ nb a g w) (L' : DL) (H' : Hp) (hL : pickD σ.1 (keys L') = L' := by kernel_rfl) (hH : pickH σ.2 (keys H') = H' := by kernel_rfl) : St n S0 g0 w0 L' H' nb a g w :=
 SS.weak hS (fun t d ht => (lk_pickD (ts := keys L') (by rw [hL]; exact ht)).2) (fun k o hk => lkH_pick (ts := keys H') (by rw [hH]; exact hk)) fun _ h => h
theorem if_y {x y : Code} {c : Operand} (t : Bool) (hS : Sp n S0 g0 w0 σ nb a g w) (ht : t = true → x.wp P Q a w) (hf : t = false → y.wp P Q a w) (hc : opD σ.1 c = some (.v (.bool t)) := by kernel_rfl) : (Code.cond c x y).wp P Q a w :=
 if_x hS.st hc ht hf
theorem if_d {x y : Code} {c : Operand} (p : Prop) [Decidable p] (hS : Sp n S0 g0 w0 σ nb a g w) (ht : p → x.wp P Q a w) (hf : ¬ p → y.wp P Q a w) (hc : opD σ.1 c = some (.v (.bool (decide p))) := by kernel_rfl) : (Code.cond c x y).wp P Q a w :=
 if_x hS.st hc (fun h => ht (of_decide_eq_true h)) fun h => hf (of_decide_eq_false h)
theorem if_n {x y : Code} {c : Operand} (p : Prop) [Decidable p] (hS : Sp n S0 g0 w0 σ nb a g w) (ht : ¬ p → x.wp P Q a w) (hf : p → y.wp P Q a w) (hc : opD σ.1 c = some (.v (.bool (!decide p))) := by kernel_rfl) : (Code.cond c x y).wp P Q a w :=
 if_x hS.st hc (fun h => ht fun hp => by rw [decide_eq_true hp] at h; cases h) fun h => hf (by simpa using h)
theorem cond_t {x y : Code} {c : Operand} (hS : Sp n S0 g0 w0 σ nb a g w) (h : x.wp P Q a w) (hc : opD σ.1 c = some (.v (.bool true)) := by kernel_rfl) : (Code.cond c x y).wp P Q a w :=
 if_x hS.st hc (fun _ => h) fun h => nomatch h
theorem cond_f {x y : Code} {c : Operand} (hS : Sp n S0 g0 w0 σ nb a g w) (h : y.wp P Q a w) (hc : opD σ.1 c = some (.v (.bool false)) := by kernel_rfl) : (Code.cond c x y).wp P Q a w :=
 if_x hS.st hc (fun h => nomatch h) fun _ => h
theorem Sp.ren {ks0 : List Nat} (hg0 : ∀ k v, g0.N k = some v → k ∈ ks0) (hS : Sp n S0 g0 w0 σ nb a g w) (ρ : Ren) (L' : DL) (H' : Hc) (nb' : Nat) (hc : chkRen ρ ks0 L' H' nb' = true) (hL : pickD σ.1 (keys L') = L'.map fun p => (p.1, p.2.ren (rn ρ))) (hH : (H'.map fun p => lkH σ.2 (rn ρ p.1)) = H'.map fun p => some (p.2.ren (rn ρ))) : ∃ g', St n S0 g0 w0 L' (hpC H') nb' a g' w := by
 refine St.ren hg0 hS.st ρ L' H' nb' hc hL ?_
 clear hc hL
 induction H' with
 | nil => trivial
 | cons p r ih =>
  obtain ⟨j, o⟩ := p
  simp only [List.map_cons, List.cons.injEq] at hH
  exact ⟨hH.1, ih hH.2⟩
theorem Sp.rn {ks0 : List Nat} (hS : Sp n S0 g0 w0 σ nb a g w) (ρ : Ren) (L' : DL) (H' : Hc) (nb' : Nat) (hg0 : ∀ k v, g0.N k = some v → k ∈ ks0) (hc : chkRen ρ ks0 L' H' nb' = true := by kernel_rfl) (hL : pickD σ.1 (keys L') = L'.map fun p => (p.1, p.2.ren (rn ρ)) := by kernel_rfl) (hH : (H'.map fun p => lkH σ.2 (rn ρ p.1)) = (H'.map fun p => some (p.2.ren (rn ρ))) := by kernel_rfl) : ∃ g', Sp n S0 g0 w0 (L', hpC H') nb' a g' w :=
 Sp.ren hg0 hS ρ L' H' nb' hc hL hH
theorem loop_y {ι : Type} {code : Code} {ks0 : List Nat} (hg0 : ∀ k v, g0.N k = some v → k ∈ ks0) (hS : Sp n S0 g0 w0 σ nb a g w) (m : ι → Nat) (Li : ι → DL) (Hi : ι → Hc) (Pi : ι → Prop) (nb' : Nat) (s0 : ι) (ρ : Ren) (hP : Pi s0)
  (step : ∀ s a g w, Pi s → Sp n S0 g0 w0 (Li s, hpC (Hi s)) nb' a g w → code.wp P (Exit.then (fun a' w' => ∃ s', m s' < m s ∧ Pi s' ∧ ∃ g', Sp n S0 g0 w0 (Li s', hpC (Hi s')) nb' a' g' w') Q) a w)
  (h1 : chkRen ρ ks0 (Li s0) (Hi s0) nb' = true := by kernel_rfl) (h2 : pickD σ.1 (keys (Li s0)) = (Li s0).map fun p => (p.1, p.2.ren (rn ρ)) := by kernel_rfl) (h3 : ((Hi s0).map fun p => lkH σ.2 (rn ρ p.1)) = ((Hi s0).map fun p => some (p.2.ren (rn ρ))) := by kernel_rfl) : (Code.loop code).wp P Q a w := by
 obtain ⟨g', hS'⟩ := Sp.ren hg0 hS ρ (Li s0) (Hi s0) nb' h1 h2 h3
 exact loop_x m Li (fun s => hpC (Hi s)) Pi s0 hP hS' step
theorem next_y {ι : Type} {ks0 : List Nat} (hg0 : ∀ k v, g0.N k = some v → k ∈ ks0) (hS : Sp n S0 g0 w0 σ nb a g w) {m : ι → Nat} {Li : ι → DL} {Hi : ι → Hc} {Pi : ι → Prop} {nb' : Nat} {s : ι} (s' : ι) (ρ : Ren) (hm : m s' < m s) (hP : Pi s') (h1 : chkRen ρ ks0 (Li s') (Hi s') nb' = true := by kernel_rfl) (h2 : pickD σ.1 (keys (Li s')) = (Li s').map fun p => (p.1, p.2.ren (rn ρ)) := by kernel_rfl) (h3 : ((Hi s').map fun p => lkH σ.2 (rn ρ p.1)) = ((Hi s').map fun p => some (p.2.ren (rn ρ))) := by kernel_rfl) :
  ∃ s', m s' < m s ∧ Pi s' ∧ ∃ g', Sp n S0 g0 w0 (Li s', hpC (Hi s')) nb' a g' w := by
 obtain ⟨g', hS'⟩ := Sp.ren hg0 hS ρ (Li s') (Hi s') nb' h1 h2 h3
 exact ⟨s', hm, hP, g', hS'⟩
def frd (nn : Bool) : Option O → D
 | some (.sl _ e xs) => .ls nn e xs
 | _ => .top
def isSl : Option O → Bool
 | some (.sl ..) => true
 | _ => false
def obd : Option O → D
 | some (.ob _ d) => d
 | _ => .nil
def oty : Option O → TypeId
 | some (.ob t _) => t
 | _ => 0
def isOb : Option O → Bool
 | some (.ob ..) => true
 | _ => false
theorem isSl_of {o : Option O} (h : isSl o = true) : ∃ te e xs, o = some (.sl te e xs) := by
 cases o with
 | none => cases h
 | some o => cases o with
  | ob => cases h
  | sl te e xs => exact ⟨te, e, xs, rfl⟩
theorem isOb_of {o : Option O} (h : isOb o = true) : o = some (.ob (oty o) (obd o)) := by
 cases o with
 | none => cases h
 | some o => cases o with
  | sl => cases h
  | ob t d => rfl
theorem Sp.fz (hS : Sp n S0 g0 w0 σ nb a g w) (k : Nat) (hk : isSl (lkH σ.2 k) = true := by kernel_rfl) : ∃ g', Sp n S0 g0 w0 (σ.1.map fun p => (p.1, p.2.sb k (fun o => .cp k o) (frd false (lkH σ.2 k))), (k, none) :: σ.2.map fun p => (p.1, p.2.map (O.sb · k (fun o => .cp k o) (frd false (lkH σ.2 k))))) nb a g' w := by
 obtain ⟨te, e, xs, h⟩ := isSl_of hk
 rw [h]
 exact St.frz hS.st k false nofun h rfl rfl
theorem Sp.im (hS : Sp n S0 g0 w0 σ nb a g w) (k : Nat) (hk : isOb (lkH σ.2 k) = true := by kernel_rfl) : ∃ g', Sp n S0 g0 w0 (σ.1.map fun p => (p.1, p.2.sb k (fun o => .im (obd (lkH σ.2 k)) o) (.sk k)), (k, none) :: σ.2.map fun p => (p.1, p.2.map (O.sb · k (fun o => .im (obd (lkH σ.2 k)) o) (.sk k)))) nb a g' w :=
 St.imm hS.st k (isOb_of hk) rfl rfl
theorem Sp.wk (hS : Sp n S0 g0 w0 σ nb a g w) (t : Nat) (e : D) (ht : (lkD σ.1 t).isSome = true := by kernel_rfl) : Sp n S0 g0 w0 (upL t (weak ((lkD σ.1 t).getD .top) e) σ.1, σ.2) nb a g w := by
 obtain ⟨d, hd⟩ := Option.isSome_iff_exists.1 ht
 rw [hd]
 exact St.wk hS.st t e hd rfl
theorem Sp.wko (hS : Sp n S0 g0 w0 σ nb a g w) (k : Nat) (es : List D) (hk : isOb (lkH σ.2 k) = true := by kernel_rfl) : Sp n S0 g0 w0 (σ.1, (k, some (.ob (oty (lkH σ.2 k)) (wkC (obd (lkH σ.2 k)) es))) :: σ.2) nb a g w :=
 St.wko hS.st k es (isOb_of hk) rfl
theorem Sp.alias (hS : Sp n S0 g0 w0 σ nb a g w) (k : Nat) (hk : (lkH σ.2 k).isSome = true := by kernel_rfl) : ∃ g', Sp n S0 g0 w0 (σ.1.map fun p => (p.1, p.2.sb k (fun o => .cp nb o) (.sk nb)), (k, none) :: (nb, (lkH σ.2 k).map (O.sb · k (fun o => .cp nb o) (.sk nb))) :: σ.2.map fun p => (p.1, p.2.map (O.sb · k (fun o => .cp nb o) (.sk nb)))) (nb + 1) a g' w := by
 obtain ⟨o, ho⟩ := Option.isSome_iff_exists.1 hk
 rw [ho]
 exact St.alias hS.st k ho rfl rfl
theorem Sp.nilk (hS : Sp n S0 g0 w0 σ nb a g w) (t : Nat) (te : TypeId) (e : List Fk) (ht : lkD σ.1 t = some (.v (.slice none 0 0)) := by kernel_rfl) : ∃ g', Sp n S0 g0 w0 (upL t (.sk nb) σ.1, (nb, some (.sl te e [])) :: σ.2) (nb + 1) a g' w :=
 St.nilk hS.st t te e ht rfl rfl
def isSm : Option D → Bool := Option.isSome
theorem Sp.nilob (hS : Sp n S0 g0 w0 σ nb a g w) (k i : Nat) (te : TypeId) (e : List Fk) (hk : isOb (lkH σ.2 k) = true := by kernel_rfl) (hd : isSm (nlD nb i (obd (lkH σ.2 k))) = true := by kernel_rfl) : ∃ g', Sp n S0 g0 w0 (σ.1, (nb, some (.sl te e [])) :: (k, some (.ob (oty (lkH σ.2 k)) ((nlD nb i (obd (lkH σ.2 k))).getD .nil))) :: σ.2) (nb + 1) a g' w := by
 obtain ⟨d', h⟩ := Option.isSome_iff_exists.1 hd
 rw [h]
 exact St.nilob hS.st k i te e (isOb_of hk) h rfl
theorem Sp.nilor (hS : Sp n S0 g0 w0 σ nb a g w) (t : Nat) (e : List Fk) (xs : List (RT e)) (ht : lkD σ.1 t = some (.ls false e xs) := by kernel_rfl) : (xs = [] ∧ Sp n S0 g0 w0 (upL t (.v (.slice none 0 0)) σ.1, σ.2) nb a g w) ∨ Sp n S0 g0 w0 (upL t (.ls true e xs) σ.1, σ.2) nb a g w :=
 St.nilor hS.st t ht rfl rfl
theorem fin_y (hD : Dfr.ds = ([] : List Deferred)) {fn : Func} {c : Con} {e : Exit} (he : e = .normal ∨ e = .ret) (hS : Sp n (c.foot g0) g0 w0 σ nb a g w) (ds : List D) (Hx : Hp) (hr : weak (resD ds) c.res = c.res) (h1 : H1Ok Hx c.H1 true) (h : exRvs P σ.1 σ.2 fn.results.toList = some ds := by kernel_rfl) (hx : pickH σ.2 (keys Hx) = Hx := by kernel_rfl) : bodyPost P fn (Ret fun v w' => ∃ g', CPost c g0 w0 v g' w') e a w := by
 refine fin_x hD he hS.st h hr ?_
 have key : ∀ (r : Hc), H1Ok Hx r true → H1Ok σ.2 r true := by
  intro r
  induction r with
  | nil => exact fun h => h
  | cons p r ih =>
   obtain ⟨k, o⟩ := p
   exact fun h => ⟨lkH_pick (ts := keys Hx) (by rw [hx]; exact h.1), ih h.2⟩
 exact key _ h1
end
end Go.Sx
namespace Go.Sx
open Go.Mi Go.RowKit
variable [Dfr]
structure Kc (B : Nat) (w w' : World) : Prop where
 os : w'.os = w.os
 tape : w'.tape = w.tape
 output : w'.output = w.output
 size : w.heap.size ≤ w'.heap.size
 cells : ∀ (b : Nat) (o : Obj), w.heap[b]? = some o → o.isCells = true → w'.heap[b]? = some o
 old : ∀ b, b < B → w'.heap[b]? = w.heap[b]?
theorem Kc.cell {B : Nat} {w w' : World} (h : Kc B w w') {a : Addr} {v : Value} (hc : w.cell? a = some v) : w'.cell? a = some v := by
 obtain ⟨o, h1, h2⟩ := cells_of_cell hc
 rw [← hc]
 exact World.cell?_of_block ((h.cells _ _ h1 h2).trans h1.symm)
theorem Kc.of_grown {B : Nat} {w w' : World} {row : Option Nat} (hg : w.grownBy w' row) (hB : B ≤ w.heap.size) (hr : ∀ r, row = some r → B ≤ r ∧ ∃ o : Obj, w.heap[r]? = some o ∧ o.isCells = false) : Kc B w w' :=
by
 refine ⟨hg.os, hg.tape, hg.output, hg.size, fun b o hb ho => ?_, fun b hb => hg.block b (by omega) fun e => ?_⟩
 ·refine (hg.block b ?_ fun e => ?_).trans hb
  ·rcases Nat.lt_or_ge b w.heap.size with h | h
   ·exact h
   ·rw [Array.getElem?_eq_none h] at hb; cases hb
  ·obtain ⟨_, o', h1, h2⟩ := hr b e.symm
   rw [hb] at h1; cases h1; rw [ho] at h2; cases h2
 ·have := (hr b e.symm).1; omega
section
variable {X : Nat → Prop} {N : Nat → Option Value} {B : Nat} {w w' : World}
theorem At.kc {b o : Nat} {vs : List Value} (k : Kc B w w') (h : At w b o vs) : At w' b o vs := fun i u hu => k.cell (h i u hu)
theorem Lsl.kc {nn : Bool} {n m : Nat} {v : Value} {cs : List Value} (k : Kc B w w') (h : Lsl X w nn n v m cs) : Lsl X w' nn n v m cs :=
 ⟨h.le, h.len, h.at'.imp id fun ⟨b, o, c, h0, h1, h2, h3, h4, h5⟩ => ⟨b, o, c, h0, h1, h2, h3, Nat.lt_of_lt_of_le h4 k.size, At.kc k h5⟩⟩
theorem fS_kc (k : Kc B w w') : ∀ (a : Fk) (x : a.T) (v : Value), fS X N w a x v → fS X N w' a x v := by
 intro a
 induction a with
 | sl e ih => rintro x v ⟨vs, h1, h2⟩; exact ⟨vs, h1.kc k, h2.mono ih⟩
 | os e ih =>
  intro x v h
  cases x with
  | none => exact h
  | some xs => obtain ⟨vs, h1, h2⟩ := h; exact ⟨vs, h1.kc k, h2.mono ih⟩
 | _ => exact fun x v h => h
theorem rS_kc (k : Kc B w w') : ∀ (e : List Fk) (x : RT e) (l : List Value), rS X N w e x l → rS X N w' e x l
 | [], x, l, h => h
 | [a], x, l, ⟨v, h1, h2⟩ => ⟨v, h1, fS_kc k _ _ _ h2⟩
 | a :: b :: s, x, l, ⟨v, l', h1, h2, h3⟩ => ⟨v, l', h1, fS_kc k _ _ _ h2, rS_kc k (b :: s) _ _ h3⟩
theorem sem_kc (k : Kc B w w') : ∀ (d : D) (m : Bool) (l : List Value), sem X N w d m l → sem X N w' d m l := by
 intro d
 induction d with
 | ls nn e xs => rintro m l ⟨v, ls, h2, h3, h4⟩; exact ⟨v, ls, h2, h3.kc k, h4.mono (rS_kc k e)⟩
 | os e o => rintro m l ⟨v, h2, h3⟩; exact ⟨v, h2, fS_kc k _ _ _ h3⟩
 | cons d ds ih1 ih2 => rintro m l ⟨l1, l2, rfl, h1, h2⟩; exact ⟨l1, l2, rfl, ih1 _ _ h1, ih2 _ _ h2⟩
 | ag d ih => rintro m l ⟨l', h1, h2, h3⟩; exact ⟨l', ih _ _ h1, h2, h3⟩
 | tu d ih => rintro m l ⟨l', h1, h2⟩; exact ⟨l', ih _ _ h1, h2⟩
 | fn f a b iha ihb => rintro m l ⟨va, vb, h1, h2, h3⟩; exact ⟨va, vb, iha _ _ h1, ihb _ _ h2, h3⟩
 | ifc t d ih => rintro m l ⟨v, h1, h2⟩; exact ⟨v, ih _ _ h1, h2⟩
 | im d o ih => rintro m l ⟨b, l', h2, h3, h4, h5, h7, h6⟩; exact ⟨b, l', h2, Nat.lt_of_lt_of_le h3 k.size, h4, At.kc k h5, h7, ih _ _ h6⟩
 | ip e x o => rintro m l ⟨b, o0, l', h2, h3, h4, h5, h6⟩; exact ⟨b, o0, l', h2, Nat.lt_of_lt_of_le h3 k.size, h4, At.kc k h5, rS_kc k _ _ _ h6⟩
 | _ => exact fun m l h => h
theorem OS.kc {g : G} {k : Nat} {o : O} (c : Kc B w w') (h : OS g w k o) : OS g w' k o := by
 cases o with
 | ob ty ds => obtain ⟨b, cs, h1, h2, h3, h4, h5⟩ := h; exact ⟨b, cs, h1, h2, c.cells _ _ h3 rfl, sem_kc c _ _ _ h4, h5⟩
 | sl ty e xs =>
  obtain ⟨v, ls, h1, h2, h3, h4, h5, h6⟩ := h
  exact ⟨v, ls, h1, h2, ⟨h3.1, h3.2.imp id fun ⟨b, cap, cur, k0, k1, k2, k3⟩ => ⟨b, cap, cur, k0, k1, c.cells _ _ k2 rfl, k3⟩⟩, h4, h5.mono (rS_kc c e), h6⟩
theorem SS.kc {n : Nat} {S0 : Nat → Prop} {g0 : G} {w0 : World} {L : Nat → Option D} {H : Nat → Option O} {nm : Nat → Prop} {a : Act} {g : G} (k : Kc w0.heap.size w w') (h : SS n S0 g0 w0 L H nm a g w) : SS n S0 g0 w0 L H nm a g w' :=
 ⟨h.size, h.defers, fun t d ht => sem_kc k _ _ _ (h.fr t d ht), ⟨fun x hx => Nat.lt_of_lt_of_le (h.hs.wf x hx) k.size, fun i o hi => (h.hs.os i o hi).kc k, h.hs.own, h.hs.dis⟩,
  ⟨⟨k.os.trans h.go.ch.os, k.tape.trans h.go.ch.tape, k.output.trans h.go.ch.output, Nat.le_trans h.go.ch.size k.size, fun b hb hn => (k.old b hb).trans (h.go.ch.blk b hb hn)⟩, h.go.s, h.go.x, h.go.k, h.go.n, h.go.f⟩, h.wf0, h.fp, h.nm⟩
end
def ndf (o : Oper) : Bool := match o.op with
 | .defer _ => false
 | _ => true
section
variable {P : Program} {a : Act} {w : World} {next : Act → World → Prop} {Q : Exit → Act → World → Prop} {r m : Nat}
theorem calls_in {f : FuncId} {args : Array Value} {R : Ending → World → Prop} (h : Calls P f args w R) : CallsIn (Fence.wide.inRound r) m P f args w R :=
 ⟨trivial, fun cs _ => let ⟨e, w', fr, k, s, x⟩ := h cs; ⟨e, w', fr, k, comesIn_wide.2 s, x⟩⟩
theorem rows_in {row : String} {args : Array Value} {R : Value → World → Prop} (h : Rows P row args w R) : RowsIn (Fence.wide.inRound r) m P row args w R :=
 fun c cs _ => let ⟨v, w', k, s⟩ := h c cs; ⟨v, w', k, stepsIn_wide.2 s⟩
theorem oper_in {o : Oper} (hd : ndf o = true) (h : o.wp P a w next Q) : o.wpIn (Fence.wide.inRound r) m P a w next Q := by
 refine ⟨fun _ _ => trivial, ?_⟩
 have e : Oper.semAt (Fence.wide.inRound r).round a.eval o = execOp a.eval o := Oper.semAt_eq _ _ _ fun c hc => by
  simp only [ndf, hc] at hd
  cases hd
 rw [e]
 unfold Oper.wp at h
 generalize (execOp a.eval o).run P w = res at h ⊢
 unfold Oper.upon at h
 unfold Oper.uponIn
 split at h
 ·exact h
 ·exact h
 ·exact h
 ·exact ⟨(fun hx => by cases hx), calls_in h⟩
 ·exact ⟨(fun hx => by cases hx), rows_in h⟩
 ·exact h
 ·exact h.elim
theorem list_in {ops : Array Oper} (hQ : ¬ LetsOut Q) : ∀ {l : List Oper} {a : Act} {w : World}, l.all ndf = true → wpList P ops Q l a w → wpListIn (Fence.wide.inRound r) m P ops Q l a w
 | [], a, w, _, h => h
 | o :: l, a, w, hl, h => by
  simp only [List.all_cons, Bool.and_eq_true] at hl
  unfold wpList at h
  unfold wpListIn
  split at h
  ·rename_i hw
   rw [if_pos hw]
   rcases h with h | ⟨_, h⟩
   ·exact Oper.wpIn_mono (fun a w h => list_in hQ hl.2 h) (oper_in hl.1 h)
   ·exact absurd h hQ
  ·rename_i hw
   rw [if_neg hw]
   exact ⟨fun _ _ => trivial, list_in hQ hl.2 h⟩
end
section
variable {P : Program} {Q : Exit → Act → World → Prop} {l : List Oper}
theorem region_rowL {a : Act} {w : World} (I : (Nat → Bool) → Act → World → Prop)
  (h0 : I (fun _ => false) a w) (hcg : ∀ d d' a w, (∀ i, i < l.length → d i = d' i) → I d a w → I d' a w)
  (hstep : ∀ i a w, i < l.length → I (fun j => Nat.blt j i) a w → wpOp P l.toArray Q i (fun a' w' => I (fun j => bif Nat.beq j i then true else Nat.blt j i) a' w') a w)
  (hend : ∀ a w, I (fun _ => true) a w → Q .normal a w) : wpList P l.toArray Q l a w := by
 have main : ∀ (os : List Oper) (i : Nat) (a : Act) (w : World), (∀ (j : Nat) o, os[j]? = some o → l[i + j]? = some o) → i + os.length = l.length → I (fun j => Nat.blt j i) a w → wpList P l.toArray Q os a w := by
  intro os
  induction os with
  | nil =>
   intro i a w _ hl h
   refine hend a w (hcg _ _ a w (fun j hj => ?_) h)
   show Nat.blt j i = true
   rw [Nat.blt_eq]
   simp at hl
   omega
  | cons o os ih =>
   intro i a w ho hl h
   simp only [List.length_cons] at hl
   have hs := hstep i a w (by omega) h
   have hi : l[i]? = some o := by simpa using ho 0 o rfl
   unfold wpOp at hs
   simp only [List.getElem?_toArray, hi] at hs
   unfold wpList
   have hn : ∀ a' w', I (fun j => bif Nat.beq j i then true else Nat.blt j i) a' w' → wpList P l.toArray Q os a' w' := fun a' w' h' => by
    refine ih (i + 1) a' w' (fun j o' hj => ?_) (by omega) (hcg _ _ _ _ (fun j _ => ?_) h')
    ·rw [show i + 1 + j = i + (j + 1) by omega]; exact ho (j + 1) o' (by simpa using hj)
    ·show _ = Nat.blt j (i + 1)
     by_cases hji : j = i
     ·subst hji
      simp [Nat.blt_eq]
     ·rw [beqf hji]
      simp only [cond_false]
      cases h1 : Nat.blt j i with
      | true => rw [Nat.blt_eq] at h1; symm; rw [Nat.blt_eq]; omega
      | false =>
       cases h2 : Nat.blt j (i + 1) with
       | false => rfl
       | true =>
        rw [Nat.blt_eq] at h2
        have : Nat.blt j i = true := by rw [Nat.blt_eq]; omega
        rw [this] at h1; cases h1
   split
   ·rename_i hw
    rw [if_pos hw] at hs
    rcases hs with hs | hs
    ·exact .inl (Oper.wp_mono hn hs)
    ·exact .inr hs
   ·rename_i hw
    rw [if_neg hw] at hs
    exact hn _ _ hs
 refine main l 0 a w (fun j o h => by simpa using h) (by simp) ?_
 refine hcg _ _ a w (fun i _ => ?_) h0
 cases h : Nat.blt i 0 with
 | false => rfl
 | true => rw [Nat.blt_eq] at h; omega
end
section
variable {P : Program} {n : Nat} {S0 : Nat → Prop} {g0 g : G} {w0 w : World} {a : Act} {Q : Exit → Act → World → Prop}
theorem region_in {L : DL} {H : Hp} {nb : Nat} {kL kH : List Nat} {ops : List Oper} {ex : Ex} {r m id : Nat} (hex : ExOk P n ex) {ps : List Prop} {Lo : DL} {Ho : Hp} {nb' : Nat} (h : plX n ops ex L H nb kL kH = some (ps, Lo, Ho, nb')) (hp : AllP ps) (hle : Nat.ble nb nb' = true) (hnd : ops.all ndf = true) (hQ : ¬ LetsOut Q) (hS : St n S0 g0 w0 L H nb a g w)
  (hend : ∀ a g w, St n S0 g0 w0 Lo Ho nb' a g w → Q .normal a w) : (Code.region id ops.toArray false).wpIn (Fence.wide.inRound r) m P Q a w := by
 obtain ⟨rows, hc, hr, h1, h2⟩ := plX_of hex h hp
 have hle := Nat.le_of_ble_eq_true hle
 have fin : ∀ a w, RI n S0 g0 w0 ops rows L H nb (fun _ => true) a w → Q .normal a w := fun a w ⟨g, hs⟩ => hend a g w (hs.weak (fun t d ht => by rw [lw_all, ← fold_L]; exact h1 t d ht) (fun k o hk => by rw [lw_all, ← fold_H]; exact h2 k o hk) fun k hk => by
  rcases hk with hk | ⟨i, b, hb, _, hk⟩
  ·exact Nat.lt_of_lt_of_le hk hle
  ·obtain ⟨_, hz⟩ := List.getElem?_zip_eq_some.1 hb
   exact (hc.name b.2 (List.mem_of_getElem? hz) k hk).2)
 have ini : ∀ w, St n S0 g0 w0 L H nb a g w → RI n S0 g0 w0 ops rows L H nb (fun _ => false) a w := fun w hs => ⟨g, hs.weak (fun t d ht => by rw [lw_no] at ht; exact ht) (fun k o hk => by rw [lw_no] at hk; exact hk) fun k hk => .inl hk⟩
 refine wpIn_region_lit (list_in hQ hnd ?_)
 refine region_rowL (RI n S0 g0 w0 ops rows L H nb) (ini _ hS) (fun d d' a w hd => ri_cg hc.len hd) (fun i a w hi hri => ?_) fin
 have ahead_lt : ∀ i j, Ahead ops i j → j < i := fun i j ha => by
  induction ha with
  | edge h1 h2 h3 => exact hc.back _ _ h1 _ h2 h3
  | trans _ _ ih1 ih2 => omega
 refine ri_step hc (fun b hb => hr.at i b hb) hi ?_ (fun i' j ha hi' => ?_) (fun j ha => ?_) hri
 ·cases hb : Nat.blt i i with
  | false => rfl
  | true => rw [Nat.blt_eq] at hb; omega
 ·rw [Nat.blt_eq] at hi' ⊢; have := ahead_lt _ _ ha; omega
 ·rw [Nat.blt_eq]; exact ahead_lt _ _ ha
theorem foot_cells {H : Hp} {b : Nat} (h : HS (lkH H) g w) (hb : footH H g b) : ∃ o : Obj, w.heap[b]? = some o ∧ o.isCells = true := by
 obtain ⟨k, o, h1, h2⟩ := hb
 have hos := h.os k o h1
 cases o with
 | ob ty ds => obtain ⟨b', c, k1, k2, k3, _⟩ := hos; rw [k2, List.mem_singleton] at h2; subst h2; exact ⟨_, k3, rfl⟩
 | sl ty e xs =>
  obtain ⟨v, ls, k1, k2, k3, _⟩ := hos
  rw [k2] at h2
  rcases k3.2 with ⟨rfl, _⟩ | ⟨b', cap, cur, rfl, _, k4, _⟩
  ·simp [oblk] at h2
  ·simp [oblk] at h2; subst h2; exact ⟨_, k4, rfl⟩
def RndQ (n : Nat) (S1 : Nat → Prop) (g1 : G) (w1 : World) (ks0 : List Nat) (L : DL) (Hn : Hc) (nb : Nat) : Exit → Act → World → Prop
 | .normal, a', w' => ∃ g' H' nb' ρ, St n S1 g1 w1 [] H' nb' a' g' w' ∧ chkRen ρ ks0 L Hn nb = true ∧ pickD L (keys L) = L.map (fun p => (p.1, p.2.ren (rn ρ))) ∧ (Hn.map fun p => lkH H' (rn ρ p.1)) = Hn.map fun p => some (p.2.ren (rn ρ))
 | _, _, _ => False
theorem rnd_no {S1 : Nat → Prop} {g1 : G} {w1 : World} {ks0 : List Nat} {L : DL} {Hn : Hc} {nb bk : Nat} : ¬ LetsOut (Exit.inBlock bk (RndQ n S1 g1 w1 ks0 L Hn nb)) := fun ⟨_, _, h⟩ => h
theorem rndY {S1 : Nat → Prop} {g1 : G} {w1 : World} {ks0 : List Nat} {L : DL} {Hn : Hc} {nb nb' : Nat} {σ : Sg} (hS : Sp n S1 g1 w1 σ nb' a g w) (ρ : Ren) (h1 : chkRen ρ ks0 L Hn nb = true := by kernel_rfl) (h2 : pickD L (keys L) = L.map (fun p => (p.1, p.2.ren (rn ρ))) := by kernel_rfl) (h3 : (Hn.map fun p => lkH σ.2 (rn ρ p.1)) = (Hn.map fun p => some (p.2.ren (rn ρ))) := by kernel_rfl) : RndQ n S1 g1 w1 ks0 L Hn nb .normal a w :=
 ⟨g, σ.2, nb', ρ, SS.weak hS (fun t d h => by cases h) (fun _ _ h => h) (fun _ h => h), h1, h2, h3⟩
theorem H0Ok_of {H : Hp} {r : Nat → Nat} : ∀ {H' : Hc}, (H'.map fun p => lkH H (r p.1)) = (H'.map fun p => some (p.2.ren r)) → H0Ok H r H'
 | [], _ => trivial
 | (j, o) :: R, h => by
  simp only [List.map_cons, List.cons.injEq] at h
  exact ⟨h.1, H0Ok_of h.2⟩
theorem SS.lt0 {L : Nat → Option D} {H : Nat → Option O} {nm : Nat → Prop} (h : SS n S0 g0 w0 L H nm a g w) : w0.heap.size ≤ w.heap.size := h.go.ch.size
theorem St.based {S1 : Nat → Prop} {L L1 : DL} {H H1 : Hp} {nb nb1 : Nat} {a1 : Act} {g1 : G} {w1 : World} (h : St n S0 g0 w0 L H nb a g w) (hf : ∀ x, S1 x → S0 x ∨ w0.heap.size ≤ x) (k : St n S1 g w L1 H1 nb1 a1 g1 w1) : St n S0 g0 w0 L H1 nb1 a g1 w1 :=
 ⟨h.size, h.defers, fun t d ht => (h.fr t d ht).mv k.go, k.hs, h.go.trans k.go h.wf0 hf, h.wf0, fun i o hi b hb => (k.fp i o hi b hb).elim (hf b) fun hx => .inr (Nat.le_trans h.lt0 hx), k.nm⟩
theorem range_y {α : Type} {L : DL} {nb t x y i1 i2 bk m gf N : Nat} {ops : List Oper} {ty : TypeId} {pos : String} {af : Array Edge} {lb : Array Value} {Kp : World → World → Prop} {S Sp : List α → Prop} {ks0 : List Nat}
  (hD : Dfr.ds = ([] : List Deferred)) (hg0 : ∀ k v, g0.N k = some v → k ∈ ks0) (Hi : List α → Hc) (hS : St n S0 g0 w0 L (hpC (Hi [])) nb a g w) (hx : Nat.blt x n = true) (hy : Nat.blt y n = true) (hL : (keys L).all (fun u => !(Nat.beq u x || Nat.beq u y)) = true)
  (hev : a.tmps.getD t undef = .func (.func gf) #[] lb) (hcal : Go.Mi.Callee P gf) (enc : α → Value) (hseq : SeqStopsK Fence.wide m P gf lb (fun z => #[enc z]) Kp S Sp N w)
  (hKt : ∀ {A B C : World}, Kp A B → Kp B C → Kp A C) (hKb : ∀ (W : World) (l : Nat) (o o' : Obj), W.heap[l]? = some o → o.isCells = false → Kp W (W.putObj l o'))
  (hKp : ∀ pre g1 W g2 W', St n S0 g0 w0 L (hpC (Hi pre)) nb a g1 W → Go (footH (hpC (Hi pre)) g1) g1 W g2 W' → Kp W W')
  (hKr : Kp w w) (hKg : ∀ (W W' : World) row, Kp w W → W.grownBy W' row → (∀ r, row = some r → ∃ o : Obj, W.heap[r]? = some o ∧ o.isCells = false) → Kp w W')
  (dv : α → D) (hdv : ∀ pre z g1 W, St n S0 g0 w0 L (hpC (Hi pre)) nb a g1 W → Kp w W → Sm g1 W (dv z) (enc z))
  (hbody : ∀ (r : Nat) pre (z : α) g1 W a1, pre.length < N → St n (footH (hpC (Hi pre)) g1) g1 W ((y, dv z) :: L) (hpC (Hi pre)) nb a1 g1 W → (Code.region i2 ops.toArray false).wpIn (Fence.wide.inRound r) (m + 1 - 1 - 1) P (Exit.inBlock bk (RndQ n (footH (hpC (Hi pre)) g1) g1 W ks0 L (Hi (pre ++ [z])) nb)) a1 W)
  (hdone : ∀ (D : Dfr) (Dk : Nat) xs a' g1 W, D.ds = [⟨.collected Dk, #[]⟩] → w0.heap.size ≤ Dk → S xs → W.heap[Dk]? = some (.deferred (some [])) → Base (footH (hpC (Hi xs)) g1) g1 W S0 g0 w0 → @SS D n (footH (hpC (Hi xs)) g1) g1 W (lkD L) (lkH (hpC (Hi xs))) (· < nb) a' g1 W → Q .normal a' W) :
  (Code.rangeFunc (.tmp t) #[x] (Code.region i1 #[⟨some y, .assign (.tmp x), ty, pos, af, none⟩] false) (Code.block bk (Code.region i2 ops.toArray false))).wp P Q a w := by
 rw [Nat.blt_eq] at hx hy
 have hLn : ∀ u d, lkD L u = some d → u ≠ x ∧ u ≠ y := fun u d hu => by
  have := List.all_eq_true.1 hL u (List.mem_map.2 ⟨_, lkD_mem hu, rfl⟩)
  simp only [Bool.not_eq_true', Bool.or_eq_false_iff] at this
  exact ⟨Nat.ne_of_beq_eq_false this.1, Nat.ne_of_beq_eq_false this.2⟩
 have rebase : ∀ {pre : List α} {g1 : G} {W : World} (z : α), St n S0 g0 w0 L (hpC (Hi pre)) nb a g1 W → Kp w W → St n (footH (hpC (Hi pre)) g1) g1 W ((y, dv z) :: L) (hpC (Hi pre)) nb (({ tmps := a.tmps.setIfInBounds x (enc z), defers := [] } : Act).put (some y) (enc z)) g1 W := fun {pre g1 W} z h hkp => by
  refine ⟨by simp [Act.put, h.size], by simp [Act.put, hD], fun u d hu => ?_, h.hs, Go.refl _ _ _ fun q ⟨k, o, h1, h2⟩ => h.hs.own k o h1 q h2, h.hs.wf, fun k o hk b hb => .inl ⟨k, o, hk, hb⟩, h.nm⟩
  simp only [lkD] at hu
  by_cases e : y = u
  ·subst e
   simp only [Nat.beq_refl, cond_true, Option.some.injEq] at hu
   subst hu
   have : (({ tmps := a.tmps.setIfInBounds x (enc z), defers := [] } : Act).put (some y) (enc z)).tmps.getD y undef = enc z := by simp [Act.put, h.size, hy]
   rw [this]
   exact hdv pre z g1 W h hkp
  ·rw [beqf e] at hu
   have hne := hLn u d hu
   have : (({ tmps := a.tmps.setIfInBounds x (enc z), defers := [] } : Act).put (some y) (enc z)).tmps.getD u undef = a.tmps.getD u undef := by
    simp [Act.put, Array.getElem?_setIfInBounds_ne e, Array.getElem?_setIfInBounds_ne (fun q => hne.1 q.symm : x ≠ u)]
   rw [this]
   exact h.fr u d hu
 refine (wpIn_wide (n := m + 1)).1 ?_
 refine wpIn_rangeFunc_ownF rfl (by omega) (gf := gf) (lb := lb) hev trivial (fun args W => ?_) (hseq : SeqStopsK Fence.wide (m + 1 - 1) P gf lb (fun z => #[enc z]) Kp S Sp N w) hKt (fun W l o o' _ h1 h2 _ => hKb W l o o' h1 h2) (Below.refl _ _) (fun z => rfl)
  (fun pre W => ∃ g1, St n S0 g0 w0 L (hpC (Hi pre)) nb a g1 W ∧ Kp w W) (fun _ _ _ => False) (fun s W W' row ⟨g1, h, hkp⟩ hg hr => ⟨g1, SS.kc (Kc.of_grown hg h.lt0 fun r e => ⟨Nat.le_trans hS.lt0 (hr r e).1, (hr r e).2⟩) h, hKg _ _ _ hkp hg fun r e => (hr r e).2⟩) (fun _ _ _ _ _ h => h.elim) ⟨g, hS, hKr⟩
  (fun z => ({ tmps := a.tmps.setIfInBounds x (enc z), defers := [] } : Act).put (some y) (enc z)) (fun l z W K hK => ?_) (fun l pre z W ⟨g1, h, hkp⟩ hlen => ?_) (fun Dk xs W hDk hSx ⟨g1, h, _⟩ hk => ?_) (fun _ _ _ _ _ _ h => h.elim)
 ·obtain ⟨fn, h1, h2, h3⟩ := hcal.ok
  simp only [callFunc, run_program, h1, h2, h3, Sem.run_bind, Result.andThen_ok]
  simp only [Bool.false_eq_true, if_false, Sem.run_pure]
 ·refine wpIn_region_lit (l := [⟨some y, .assign (.tmp x), ty, pos, af, none⟩]) ?_
  refine wpListIn_step fun K' hK' => ?_
  have e : (({ tmps := a.tmps.setIfInBounds x (enc z), defers := [] } : Act)).eval (.tmp x) = enc z := by simp [Act.eval, hS.size, hx]
  simp only [Region.wanted, if_true]
  refine ⟨fun _ _ => trivial, ?_⟩
  rw [Oper.semAt_eq _ _ _ (by intro c hc; cases hc)]
  have e2 : (#[x].zip #[enc z]).foldl (fun t (p : Tmp × Value) => t.setIfInBounds p.1 p.2) a.tmps = a.tmps.setIfInBounds x (enc z) := by simp
  simp only [execOp]
  exact hK' _ _ (wpListIn_nil (by
   have := hK
   simpa [Exit.then, Act.eval, hS.size, hx] using this))
 ·refine wpIn_mono (wpIn_block (hbody l pre z g1 W _ hlen (rebase z h hkp))) ?_
  intro e a' W' hq
  cases e with
  | normal =>
   obtain ⟨g2, H', nb', ρ, k, c1, c2, c3⟩ := hq
   have hf : ∀ q, footH (hpC (Hi pre)) g1 q → S0 q ∨ w0.heap.size ≤ q := fun q ⟨i, o, h1, h2⟩ => h.fp i o h1 q h2
   have hb := h.based hf k
   refine ⟨⟨k.go.ch.size, fun i o hi ho => ?_⟩, hKp pre g1 W g2 W' h k.go, ?_⟩
   ·refine (k.go.ch.blk i ?_ fun hfi => ?_).trans hi
    ·rcases Nat.lt_or_ge i W.heap.size with h' | h'
     ·exact h'
     ·rw [Array.getElem?_eq_none h'] at hi; cases hi
    ·obtain ⟨o', h1, h2⟩ := foot_cells h.hs hfi
     rw [hi] at h1; cases h1; rw [ho] at h2; cases h2
   ·obtain ⟨g3, h3⟩ := St.ren hg0 hb ρ L (Hi (pre ++ [z])) nb c1 c2 (H0Ok_of c3)
    exact ⟨g3, h3, hKt hkp (hKp pre g1 W g2 W' h k.go)⟩
  | _ => exact hq.elim
 ·refine hdone ⟨[⟨.collected Dk, #[]⟩]⟩ Dk xs _ g1 W rfl (Nat.le_trans hS.lt0 hDk) hSx hk ⟨fun q ⟨i, o, h1, h2⟩ => h.fp i o h1 q h2, h.go, h.wf0⟩ ?_
  refine @SS.mk ⟨[⟨.collected Dk, #[]⟩]⟩ _ _ _ _ _ _ _ _ _ _ h.size ?_ h.fr h.hs (Go.refl _ _ _ fun q ⟨i, o, h1, h2⟩ => h.hs.own i o h1 q h2) h.hs.wf (fun i o hi b hb => .inl ⟨i, o, hi, hb⟩) h.nm
  show _ :: a.defers = _
  rw [h.defers, hD]
  rfl
theorem conOk_ofM (hD : Dfr.ds = ([] : List Deferred)) (m : Nat) {f : FuncId} {fn : Func} {code : Code} {c : Con} {nb : Nat} (hf : P.funcs[f]? = some fn) (hname : (fn.name == "runtime.NumGoroutine") = false) (hb : fn.body = some code) (hn : fn.ntmps = n) (hl : Nat.ble c.args.length n = true) (hone : c.args.all D.one = true) (hk : (keys c.H0).all (Nat.blt · nb) = true)
  (h : ∀ (g0 : G) (w0 : World) (a : Act) (g : G) (w : World), (∀ k v, g0.N k = some v → k ∈ keys c.H0) → St n (c.foot g0) g0 w0 (argL c.args 0) (hpC c.H0) nb a g w → code.wp P (bodyPostM Fence.wide m P fn (Ret fun v w' => ∃ g', CPost c g0 w0 v g' w')) a w) : ConOk P f c := by
 refine ⟨⟨fn, hf, hname, by rw [hb]; rfl⟩, fun vs g w hS hN hv => ?_⟩
 subst hn
 exact callsIn_wide.1 (callsIn_of_wp_marks (n := m) hf hb trivial (wpIn_wide.2 (h g w _ g w hN (St.begin hD hl hone hk hS hN hv))))
theorem unb {Dk nb : Nat} {H1 : Hp} {g1 : G} {w1 : World} {σ : Sg} (hk : w1.heap[Dk]? = some (.deferred (some []))) (hH : HS (lkH H1) g1 w1) (hB : Base (footH H1 g1) g1 w1 S0 g0 w0) (hS : Sp n (footH H1 g1) g1 w1 σ nb a g w) : Sp n S0 g0 w0 σ nb a g w ∧ w.heap[Dk]? = some (.deferred (some [])) := by
 have hlt : Dk < w1.heap.size := by
  rcases Nat.lt_or_ge Dk w1.heap.size with h' | h'
  ·exact h'
  ·rw [Array.getElem?_eq_none h'] at hk; cases hk
 have k := hS.st
 refine ⟨⟨k.size, k.defers, k.fr, k.hs, hB.go.trans k.go hB.wf hB.s, hB.wf, fun i o hi b hb => (k.fp i o hi b hb).elim (hB.s b) fun hx => .inr (Nat.le_trans hB.go.ch.size hx), k.nm⟩, (k.go.ch.blk Dk hlt fun hf => ?_).trans hk⟩
 obtain ⟨o, o1, o2⟩ := foot_cells hH hf
 rw [hk] at o1; cases o1; cases o2
theorem fin_k {m Dk : Nat} {fn : Func} {c : Con} {e : Exit} {σ : Sg} {nb : Nat} (hD : Dfr.ds = [⟨.collected Dk, #[]⟩]) (hDk : w0.heap.size ≤ Dk) (hk : w.heap[Dk]? = some (.deferred (some []))) (he : e = .normal ∨ e = .ret) (hS : Sp n (c.foot g0) g0 w0 σ nb a g w) (ds : List D) (Hx : Hp) (hr : weak (resD ds) c.res = c.res) (h1 : H1Ok Hx c.H1 true) (h : exRvs P σ.1 σ.2 fn.results.toList = some ds := by kernel_rfl) (hx : pickH σ.2 (keys Hx) = Hx := by kernel_rfl) :
  bodyPostM Fence.wide m P fn (Ret fun v w' => ∃ g', CPost c g0 w0 v g' w') e a w := by
 have key : ∀ (r : Hc), H1Ok Hx r true → H1Ok σ.2 r true := by
  intro r
  induction r with
  | nil => exact fun h => h
  | cons p r ih =>
   obtain ⟨k, o⟩ := p
   exact fun h => ⟨lkH_pick (ts := keys Hx) (by rw [hx]; exact h.1), ih h.2⟩
 have hS1 := SS.kc (Kc.of_grown (grownBy_putObj' w Dk (.deferred none)) hS.st.go.ch.size (fun r e => by cases e; exact ⟨hDk, _, hk, rfl⟩)) hS.st
 obtain ⟨r, k1, k2⟩ := fin_b (c := c) (g1 := g0) (w1 := w0) ⟨fun _ h => .inl h, Go.refl _ _ _ hS1.go.s, hS1.wf0⟩ hS1 h hr (key _ h1)
 have h2 : LeavesInM Fence.wide m P fn a.tmps (Ret fun v w' => ∃ g', CPost c g0 w0 v g' w') a.defers .returning w := by
  rw [hS.st.defers, hD]
  exact ⟨nofun, .inl ⟨Dk, w.putObj Dk (.deferred none), rfl, run_takeDeferred hk, ⟨r, k1, r, rfl, k2⟩⟩⟩
 rcases he with rfl | rfl <;> exact h2
end
end Go.Sx
namespace Go.Sx.Try
open Go.Mi Go.RowKit Go.Sx Go.Proofs
def Z0 : Zt := [(3, [.v (.int .i64 0)]),
 (5, [.v (.int .u8 0)]),
 (22, [.v (.slice none 0 0)]),
 (27, [.v (.int .i64 0)]),
 (50, [.v (.int .u16 0)]),
 (52, [.ar .u16 256 (fun _ => 0)]),
 (53, [.ar .u16 768 (fun _ => 0)]),
 (60, [.ar .u16 256 (fun _ => 0)]),
 (62, [.ar .u16 768 (fun _ => 0)]),
 (77, [.v (.int .i64 0), .v (.int .i64 0), .v (.int .i64 0), .v (.int .i64 0), .v (.slice none 0 0), .v (.slice none 0 0), .v (.pointer none), .v (.slice none 0 0)]),
 (80, [.v (.slice none 0 0)]),
 (84, [.v (.int .i64 0), .v (.int .i64 0), .v (.int .i64 0), .v (.slice none 0 0)]),
 (106, [.ar .u32 128 (fun _ => 0)]),
 (122, [.v (.slice none 0 0)]),
 (129, [.v (.pointer none)]),
 (135, [.v (.int .i64 0), .v (.int .i64 0), .v (.int .i64 0), .v (.slice none 0 0)]),
 (137, [.ar .u64 25 (fun _ => 0)]),
 (141, [.ar .u64 25 (fun _ => 0), .v (.int .i64 0), .v (.int .i64 0)]),
 (154, [.ar .u64 5 (fun _ => 0)]),
 (155, [.ar .u64 25 (fun _ => 0)]),
 (158, [.v .nilFunc, .v .nilFunc, .v .nilFunc]),
 (159, [.ar .u64 24 (fun _ => 0)]),
 (162, [.v (.pointer none)]),
 (163, [.ar .u64 80 (fun _ => 0)]),
 (165, [.ar .u64 8 (fun _ => 0)]),
 (167, [.ar .u32 8 (fun _ => 0)]),
 (168, [.ar .u32 64 (fun _ => 0)]),
 (171, [.v (.slice none 0 0)])]
def K0 : Kt := [(3, [.int .i64]), (5, [.int .u8]), (22, [.sl (.int .u8)]), (50, [.int .u16]), (84, [.int .i64, .int .i64, .int .i64, .sl (.int .u8)]), (129, [.ref])]
def K1 : Kt := (22, [.os (.int .u8)]) :: K0
noncomputable def E0 : Env := ⟨Try.prog, Z0, K0⟩
noncomputable def E1 : Env := ⟨Try.prog, Z0, K1⟩
set_option maxRecDepth 100000 in
theorem hZ : ZOk Try.prog Z0 := ⟨⟨by kernel_rfl, by kernel_rfl⟩, ⟨by kernel_rfl, by kernel_rfl⟩, ⟨by kernel_rfl, by kernel_rfl⟩, ⟨by kernel_rfl, by kernel_rfl⟩, ⟨by kernel_rfl, by kernel_rfl⟩, ⟨by kernel_rfl, by kernel_rfl⟩, ⟨by kernel_rfl, by kernel_rfl⟩, ⟨by kernel_rfl, by kernel_rfl⟩, ⟨by kernel_rfl, by kernel_rfl⟩, ⟨by kernel_rfl, by kernel_rfl⟩, ⟨by kernel_rfl, by kernel_rfl⟩, ⟨by kernel_rfl, by kernel_rfl⟩, ⟨by kernel_rfl, by kernel_rfl⟩, ⟨by kernel_rfl, by kernel_rfl⟩, ⟨by kernel_rfl, by kernel_rfl⟩, ⟨by kernel_rfl, by kernel_rfl⟩, ⟨by kernel_rfl, by kernel_rfl⟩, ⟨by kernel_rfl, by kernel_rfl⟩, ⟨by kernel_rfl, by kernel_rfl⟩, ⟨by kernel_rfl, by kernel_rfl⟩, ⟨by kernel_rfl, by kernel_rfl⟩, ⟨by kernel_rfl, by kernel_rfl⟩, ⟨by kernel_rfl, by kernel_rfl⟩, ⟨by kernel_rfl, by kernel_rfl⟩, ⟨by kernel_rfl, by kernel_rfl⟩, ⟨by kernel_rfl, by kernel_rfl⟩, ⟨by kernel_rfl, by kernel_rfl⟩, ⟨by kernel_rfl, by kernel_rfl⟩, trivial⟩
theorem mo : Try.prog.follows .mixedOrders = true := by kernel_rfl
section
variable [Dfr]
theorem r0 {n : Nat} {σ : Sg} {S0 : Nat → Prop} {g0 g : G} {w0 w : World} {nb : Nat} {a : Act} {Q : Exit → Act → World → Prop} (kL kH : List Nat) (nb' : Nat) {id : Nat} {dr : Bool} {ops : List Oper} (hS : Sp n S0 g0 w0 σ nb a g w) (hend : ∀ {a g w}, Sp n S0 g0 w0 (xS (plS n ops (exA E0 []) σ nb kL kH)) nb' a g w → Q .normal a w) (h : xP (plS n ops (exA E0 []) σ nb kL kH) = some ([], nb') := by kernel_rfl) (hle : Nat.ble nb nb' = true := by kernel_rfl) : (Code.region id ops.toArray dr).wp Try.prog Q a w := reg_y mo (exA_ok (C := []) hZ (show CsOk Try.prog [] from trivial)) [] kL kH nb' trivial hS (fun _ _ _ h => hend h) h hle
theorem rA {n : Nat} {σ : Sg} {S0 : Nat → Prop} {g0 g : G} {w0 w : World} {nb : Nat} {a : Act} {Q : Exit → Act → World → Prop} (C : List (Nat × Rx)) (hC : CsOk Try.prog C) (ps : List (Nat × Rx) → List Prop) (kL kH : List Nat) (nb' : Nat) {id : Nat} {dr : Bool} {ops : List Oper} (hp : AllP (ps C)) (hS : Sp n S0 g0 w0 σ nb a g w) (hend : ∀ {a g w}, Sp n S0 g0 w0 (xS (plS n ops (exA E0 C) σ nb kL kH)) nb' a g w → Q .normal a w) (h : xP (plS n ops (exA E0 C) σ nb kL kH) = some ((ps C), nb') := by kernel_rfl) (hle : Nat.ble nb nb' = true := by kernel_rfl) : (Code.region id ops.toArray dr).wp Try.prog Q a w := reg_y mo (exA_ok hZ hC) (ps C) kL kH nb' hp hS (fun _ _ _ h => hend h) h hle
theorem rB {n : Nat} {σ : Sg} {S0 : Nat → Prop} {g0 g : G} {w0 w : World} {nb : Nat} {a : Act} {Q : Exit → Act → World → Prop} (C2 : List (Nat × R2)) (C : List (Nat × Rx)) (hC : CsOk Try.prog C) (ps : List (Nat × Rx) → List Prop) (kL kH : List Nat) (nb' : Nat) {id : Nat} {dr : Bool} {ops : List Oper} (hp : AllP (ps C)) (hS : Sp n S0 g0 w0 σ nb a g w) (hend : ∀ {a g w}, Sp n S0 g0 w0 (xS (plS n ops (exA2 E0 C C2) σ nb kL kH)) nb' a g w → Q .normal a w) (h : xP (plS n ops (exA2 E0 C C2) σ nb kL kH) = some ((ps C), nb') := by kernel_rfl) (hle : Nat.ble nb nb' = true := by kernel_rfl) : (Code.region id ops.toArray dr).wp Try.prog Q a w := reg_y mo (exA2_ok hZ hC) (ps C) kL kH nb' hp hS (fun _ _ _ h => hend h) h hle
theorem s0 {n : Nat} {σ : Sg} {S0 : Nat → Prop} {g0 g : G} {w0 w : World} {nb : Nat} {a : Act} {Q : Exit → Act → World → Prop} (kL kH : List Nat) (nb' : Nat) {id : Nat} {dr : Bool} {ops : List Oper} {y : Code} (hS : Sp n S0 g0 w0 σ nb a g w) (hend : ∀ {a g w}, Sp n S0 g0 w0 (xS (plS n ops (exA E0 []) σ nb kL kH)) nb' a g w → y.wp Try.prog Q a w) (h : xP (plS n ops (exA E0 []) σ nb kL kH) = some ([], nb') := by kernel_rfl) (hle : Nat.ble nb nb' = true := by kernel_rfl) : (Code.seq (Code.region id ops.toArray dr) y).wp Try.prog Q a w := wp_seq (reg_y mo (exA_ok (C := []) hZ (show CsOk Try.prog [] from trivial)) [] kL kH nb' trivial hS (fun _ _ _ h => then_n (hend h)) h hle)
theorem sA {n : Nat} {σ : Sg} {S0 : Nat → Prop} {g0 g : G} {w0 w : World} {nb : Nat} {a : Act} {Q : Exit → Act → World → Prop} (C : List (Nat × Rx)) (hC : CsOk Try.prog C) (ps : List (Nat × Rx) → List Prop) (kL kH : List Nat) (nb' : Nat) {id : Nat} {dr : Bool} {ops : List Oper} {y : Code} (hp : AllP (ps C)) (hS : Sp n S0 g0 w0 σ nb a g w) (hend : ∀ {a g w}, Sp n S0 g0 w0 (xS (plS n ops (exA E0 C) σ nb kL kH)) nb' a g w → y.wp Try.prog Q a w) (h : xP (plS n ops (exA E0 C) σ nb kL kH) = some ((ps C), nb') := by kernel_rfl) (hle : Nat.ble nb nb' = true := by kernel_rfl) : (Code.seq (Code.region id ops.toArray dr) y).wp Try.prog Q a w := wp_seq (reg_y mo (exA_ok hZ hC) (ps C) kL kH nb' hp hS (fun _ _ _ h => then_n (hend h)) h hle)
theorem sB {n : Nat} {σ : Sg} {S0 : Nat → Prop} {g0 g : G} {w0 w : World} {nb : Nat} {a : Act} {Q : Exit → Act → World → Prop} (C2 : List (Nat × R2)) (C : List (Nat × Rx)) (hC : CsOk Try.prog C) (ps : List (Nat × Rx) → List Prop) (kL kH : List Nat) (nb' : Nat) {id : Nat} {dr : Bool} {ops : List Oper} {y : Code} (hp : AllP (ps C)) (hS : Sp n S0 g0 w0 σ nb a g w) (hend : ∀ {a g w}, Sp n S0 g0 w0 (xS (plS n ops (exA2 E0 C C2) σ nb kL kH)) nb' a g w → y.wp Try.prog Q a w) (h : xP (plS n ops (exA2 E0 C C2) σ nb kL kH) = some ((ps C), nb') := by kernel_rfl) (hle : Nat.ble nb nb' = true := by kernel_rfl) : (Code.seq (Code.region id ops.toArray dr) y).wp Try.prog Q a w := wp_seq (reg_y mo (exA2_ok hZ hC) (ps C) kL kH nb' hp hS (fun _ _ _ h => then_n (hend h)) h hle)
theorem u0 {n : Nat} {σ : Sg} {S0 : Nat → Prop} {g0 g : G} {w0 w : World} {nb : Nat} {a : Act} {Q : Exit → Act → World → Prop} (kL kH : List Nat) (nb' : Nat) {id : Nat} {dr : Bool} {ops : List Oper} (hS : Sp n S0 g0 w0 σ nb a g w) (hend : ∀ {a g w}, Sp n S0 g0 w0 (xS (plS n ops (exA E1 []) σ nb kL kH)) nb' a g w → Q .normal a w) (h : xP (plS n ops (exA E1 []) σ nb kL kH) = some ([], nb') := by kernel_rfl) (hle : Nat.ble nb nb' = true := by kernel_rfl) : (Code.region id ops.toArray dr).wp Try.prog Q a w := reg_y mo (exA_ok (C := []) hZ (show CsOk Try.prog [] from trivial)) [] kL kH nb' trivial hS (fun _ _ _ h => hend h) h hle
theorem uA {n : Nat} {σ : Sg} {S0 : Nat → Prop} {g0 g : G} {w0 w : World} {nb : Nat} {a : Act} {Q : Exit → Act → World → Prop} (C : List (Nat × Rx)) (hC : CsOk Try.prog C) (ps : List (Nat × Rx) → List Prop) (kL kH : List Nat) (nb' : Nat) {id : Nat} {dr : Bool} {ops : List Oper} (hp : AllP (ps C)) (hS : Sp n S0 g0 w0 σ nb a g w) (hend : ∀ {a g w}, Sp n S0 g0 w0 (xS (plS n ops (exA E1 C) σ nb kL kH)) nb' a g w → Q .normal a w) (h : xP (plS n ops (exA E1 C) σ nb kL kH) = some ((ps C), nb') := by kernel_rfl) (hle : Nat.ble nb nb' = true := by kernel_rfl) : (Code.region id ops.toArray dr).wp Try.prog Q a w := reg_y mo (exA_ok hZ hC) (ps C) kL kH nb' hp hS (fun _ _ _ h => hend h) h hle
theorem uB {n : Nat} {σ : Sg} {S0 : Nat → Prop} {g0 g : G} {w0 w : World} {nb : Nat} {a : Act} {Q : Exit → Act → World → Prop} (C2 : List (Nat × R2)) (C : List (Nat × Rx)) (hC : CsOk Try.prog C) (ps : List (Nat × Rx) → List Prop) (kL kH : List Nat) (nb' : Nat) {id : Nat} {dr : Bool} {ops : List Oper} (hp : AllP (ps C)) (hS : Sp n S0 g0 w0 σ nb a g w) (hend : ∀ {a g w}, Sp n S0 g0 w0 (xS (plS n ops (exA2 E1 C C2) σ nb kL kH)) nb' a g w → Q .normal a w) (h : xP (plS n ops (exA2 E1 C C2) σ nb kL kH) = some ((ps C), nb') := by kernel_rfl) (hle : Nat.ble nb nb' = true := by kernel_rfl) : (Code.region id ops.toArray dr).wp Try.prog Q a w := reg_y mo (exA2_ok hZ hC) (ps C) kL kH nb' hp hS (fun _ _ _ h => hend h) h hle
theorem v0 {n : Nat} {σ : Sg} {S0 : Nat → Prop} {g0 g : G} {w0 w : World} {nb : Nat} {a : Act} {Q : Exit → Act → World → Prop} (kL kH : List Nat) (nb' : Nat) {id : Nat} {dr : Bool} {ops : List Oper} {y : Code} (hS : Sp n S0 g0 w0 σ nb a g w) (hend : ∀ {a g w}, Sp n S0 g0 w0 (xS (plS n ops (exA E1 []) σ nb kL kH)) nb' a g w → y.wp Try.prog Q a w) (h : xP (plS n ops (exA E1 []) σ nb kL kH) = some ([], nb') := by kernel_rfl) (hle : Nat.ble nb nb' = true := by kernel_rfl) : (Code.seq (Code.region id ops.toArray dr) y).wp Try.prog Q a w := wp_seq (reg_y mo (exA_ok (C := []) hZ (show CsOk Try.prog [] from trivial)) [] kL kH nb' trivial hS (fun _ _ _ h => then_n (hend h)) h hle)
theorem vA {n : Nat} {σ : Sg} {S0 : Nat → Prop} {g0 g : G} {w0 w : World} {nb : Nat} {a : Act} {Q : Exit → Act → World → Prop} (C : List (Nat × Rx)) (hC : CsOk Try.prog C) (ps : List (Nat × Rx) → List Prop) (kL kH : List Nat) (nb' : Nat) {id : Nat} {dr : Bool} {ops : List Oper} {y : Code} (hp : AllP (ps C)) (hS : Sp n S0 g0 w0 σ nb a g w) (hend : ∀ {a g w}, Sp n S0 g0 w0 (xS (plS n ops (exA E1 C) σ nb kL kH)) nb' a g w → y.wp Try.prog Q a w) (h : xP (plS n ops (exA E1 C) σ nb kL kH) = some ((ps C), nb') := by kernel_rfl) (hle : Nat.ble nb nb' = true := by kernel_rfl) : (Code.seq (Code.region id ops.toArray dr) y).wp Try.prog Q a w := wp_seq (reg_y mo (exA_ok hZ hC) (ps C) kL kH nb' hp hS (fun _ _ _ h => then_n (hend h)) h hle)
theorem vB {n : Nat} {σ : Sg} {S0 : Nat → Prop} {g0 g : G} {w0 w : World} {nb : Nat} {a : Act} {Q : Exit → Act → World → Prop} (C2 : List (Nat × R2)) (C : List (Nat × Rx)) (hC : CsOk Try.prog C) (ps : List (Nat × Rx) → List Prop) (kL kH : List Nat) (nb' : Nat) {id : Nat} {dr : Bool} {ops : List Oper} {y : Code} (hp : AllP (ps C)) (hS : Sp n S0 g0 w0 σ nb a g w) (hend : ∀ {a g w}, Sp n S0 g0 w0 (xS (plS n ops (exA2 E1 C C2) σ nb kL kH)) nb' a g w → y.wp Try.prog Q a w) (h : xP (plS n ops (exA2 E1 C C2) σ nb kL kH) = some ((ps C), nb') := by kernel_rfl) (hle : Nat.ble nb nb' = true := by kernel_rfl) : (Code.seq (Code.region id ops.toArray dr) y).wp Try.prog Q a w := wp_seq (reg_y mo (exA2_ok hZ hC) (ps C) kL kH nb' hp hS (fun _ _ _ h => then_n (hend h)) h hle)
theorem rI {n : Nat} {σ : Sg} {S0 : Nat → Prop} {g0 g : G} {w0 w : World} {nb : Nat} {a : Act} {Q : Exit → Act → World → Prop} (C : List (Nat × Rx)) (hC : CsOk Try.prog C) (ps : List (Nat × Rx) → List Prop) (kL kH : List Nat) (nb' : Nat) {id r m : Nat} {ops : List Oper} (hp : AllP (ps C)) (hS : Sp n S0 g0 w0 σ nb a g w) (hQ : ¬ LetsOut Q) (hend : ∀ a g w, Sp n S0 g0 w0 (xS (plS n ops (exA E0 C) σ nb kL kH)) nb' a g w → Q .normal a w) (hnd : ops.all ndf = true := by kernel_rfl) (h : xP (plS n ops (exA E0 C) σ nb kL kH) = some (ps C, nb') := by kernel_rfl) (hle : Nat.ble nb nb' = true := by kernel_rfl) : (Code.region id ops.toArray false).wpIn (Fence.wide.inRound r) m Try.prog Q a w := region_in (exA_ok hZ hC) (xP_of h) hp hle hnd hQ hS.st hend
end
end Go.Sx.Try
namespace Go.Mi.Ke
abbrev Ln := BitVec 64
abbrev St := Nat → Ln
def rot (a : Ln) (n : Nat) : Ln := a.rotateLeft n
def Eq25 (a b : St) : Prop := ∀ i, i < 25 → a i = b i
theorem bit_rot (a : Ln) (n i : Nat) (hi : i < 64) : (rot a n).getLsbD i = a.getLsbD ((i + (64 - n % 64)) % 64) := by
 unfold rot
 simp only [BitVec.getLsbD_rotateLeft]
 have hn : n % 64 < 64 := Nat.mod_lt _ (by decide)
 by_cases h : i < n % 64
 ·rw [decide_eq_true h, cond_true]
  congr 1
  omega
 ·rw [decide_eq_false h, cond_false, decide_eq_true hi, Bool.true_and]
  congr 1
  omega
theorem rot_inj {a b : Ln} {n : Nat} (h : rot a n = rot b n) : a = b := by
 apply BitVec.eq_of_getLsbD_eq
 intro i hi
 have hn : n % 64 < 64 := Nat.mod_lt _ (by decide)
 have h1 := bit_rot a n ((i + n % 64) % 64) (Nat.mod_lt _ (by decide))
 have h2 := bit_rot b n ((i + n % 64) % 64) (Nat.mod_lt _ (by decide))
 rw [h, h2] at h1
 rw [show ((i + n % 64) % 64 + (64 - n % 64)) % 64 = i by omega] at h1
 exact h1.symm
def par (a : St) (x : Nat) : Ln := a (x % 5) ^^^ a (x % 5 + 5) ^^^ a (x % 5 + 10) ^^^ a (x % 5 + 15) ^^^ a (x % 5 + 20)
def dif (a : St) (x : Nat) : Ln := par a (x + 4) ^^^ rot (par a (x + 1)) 1
def theta (a : St) : St := fun i => a i ^^^ dif a i
theorem par_mod (a : St) (x : Nat) : par a (x % 5) = par a x := by unfold par; rw [Nat.mod_mod]
theorem dif_mod (a : St) (x k : Nat) : dif a (x + 5 * k) = dif a x := by
 unfold dif par
 rw [show (x + 5 * k + 4) % 5 = (x + 4) % 5 by omega, show (x + 5 * k + 1) % 5 = (x + 1) % 5 by omega]
theorem xor5 (a b c d e u : Ln) : (a ^^^ u) ^^^ (b ^^^ u) ^^^ (c ^^^ u) ^^^ (d ^^^ u) ^^^ (e ^^^ u) = (a ^^^ b ^^^ c ^^^ d ^^^ e) ^^^ u := by
 apply BitVec.eq_of_getLsbD_eq
 intro i _
 simp only [BitVec.getLsbD_xor]
 generalize a.getLsbD i = a
 generalize b.getLsbD i = b
 generalize c.getLsbD i = c
 generalize d.getLsbD i = d
 generalize e.getLsbD i = e
 generalize u.getLsbD i = u
 revert a b c d e u
 decide
theorem par_theta (a : St) (x : Nat) : par (theta a) x = par a x ^^^ dif a x := by
 have h : ∀ k, theta a (x % 5 + 5 * k) = a (x % 5 + 5 * k) ^^^ dif a x := fun k => by
  unfold theta
  rw [dif_mod, ← dif_mod a (x % 5) (x / 5), show x % 5 + 5 * (x / 5) = x by omega]
 have h0 := h 0
 have h1 := h 1
 have h2 := h 2
 have h3 := h 3
 have h4 := h 4
 simp only [Nat.mul_zero, Nat.add_zero, Nat.reduceMul] at h0 h1 h2 h3 h4
 unfold par
 rw [h0, h1, h2, h3, h4]
 exact xor5 ..
theorem none_of {r : Nat → Nat → Bool} (p5 : ∀ x z, r (x + 5) z = r x z) (p64 : ∀ x z, r x (z + 64) = r x z) (h : ∀ x z, r x z = (r (x + 4) z ^^ r (x + 1) (z + 63))) (x z : Nat) : r x z = false := by
 have q5 : ∀ k x z, r (x + 5 * k) z = r x z := by
  intro k
  induction k with
  | zero => intro x z; rfl
  | succ k ih => intro x z; rw [show x + 5 * (k + 1) = (x + 5 * k) + 5 by omega, p5, ih]
 have q64 : ∀ k x z, r x (z + 64 * k) = r x z := by
  intro k
  induction k with
  | zero => intro x z; rfl
  | succ k ih => intro x z; rw [show z + 64 * (k + 1) = (z + 64 * k) + 64 by omega, p64, ih]
 have dbl : ∀ m, (∀ x z, r x z = (r (x + 4 * m) z ^^ r (x + m) (z + 63 * m))) → ∀ x z, r x z = (r (x + 4 * (2 * m)) z ^^ r (x + 2 * m) (z + 63 * (2 * m))) := by
  intro m hm x z
  have e1 := hm (x + 4 * m) z
  have e2 := hm (x + m) (z + 63 * m)
  rw [hm x z, e1, e2]
  rw [show x + 4 * m + 4 * m = x + 4 * (2 * m) by omega, show x + 4 * m + m = x + 5 * m by omega, show x + m + 4 * m = x + 5 * m by omega, show x + m + m = x + 2 * m by omega, show z + 63 * m + 63 * m = z + 63 * (2 * m) by omega]
  cases r (x + 4 * (2 * m)) z <;> cases r (x + 5 * m) (z + 63 * m) <;> cases r (x + 2 * m) (z + 63 * (2 * m)) <;> rfl
 have h64 := dbl 32 (dbl 16 (dbl 8 (dbl 4 (dbl 2 (dbl 1 (by simpa using h))))))
 have key : ∀ x, r x z = (r (x + 1) z ^^ r (x + 4) z) := by
  intro x
  have := h64 x z
  rw [show x + 4 * (2 * 32) = (x + 1) + 5 * 51 by omega, show x + 2 * 32 = (x + 4) + 5 * 12 by omega, show z + 63 * (2 * 32) = z + 64 * 63 by omega, q5, q5, q64] at this
  exact this
 have k0 := key x
 have k1 := key (x + 1)
 have k2 := key (x + 2)
 have k3 := key (x + 3)
 have k4 := key (x + 4)
 rw [show x + 1 + 4 = x + 5 by omega, p5] at k1
 rw [show x + 2 + 4 = (x + 1) + 5 by omega, p5] at k2
 rw [show x + 3 + 4 = (x + 2) + 5 by omega, p5] at k3
 rw [show x + 4 + 1 = x + 5 by omega, show x + 4 + 4 = (x + 3) + 5 by omega, p5, p5] at k4
 simp only [Nat.add_assoc, Nat.reduceAdd] at k0 k1 k2 k3 k4
 revert k0 k1 k2 k3 k4
 cases r x z <;> cases r (x + 1) z <;> cases r (x + 2) z <;> cases r (x + 3) z <;> cases r (x + 4) z <;> simp
theorem theta_inj {a b : St} (h : Eq25 (theta a) (theta b)) : Eq25 a b := by
 have hp : ∀ x, par (theta a) x = par (theta b) x := fun x => by
  have hx : x % 5 < 5 := Nat.mod_lt _ (by decide)
  unfold par
  rw [h _ (by omega), h _ (by omega), h _ (by omega), h _ (by omega), h _ (by omega)]
 let r : Nat → Nat → Bool := fun x z => (par a x).getLsbD (z % 64) ^^ (par b x).getLsbD (z % 64)
 have hr : ∀ x z, r x z = false := by
  refine none_of (fun x z => ?_) (fun x z => ?_) (fun x z => ?_)
  ·show (_ ^^ _) = (_ ^^ _)
   rw [← par_mod a (x + 5), ← par_mod b (x + 5), show (x + 5) % 5 = x % 5 by omega, par_mod, par_mod]
  ·show (_ ^^ _) = (_ ^^ _)
   rw [show (z + 64) % 64 = z % 64 by omega]
  ·have e := hp x
   rw [par_theta, par_theta] at e
   have e2 := congrArg (fun u : Ln => u.getLsbD (z % 64)) e
   have hz : z % 64 < 64 := Nat.mod_lt _ (by decide)
   simp only [dif, BitVec.getLsbD_xor, bit_rot _ _ _ hz] at e2
   rw [show (z % 64 + (64 - 1 % 64)) % 64 = (z + 63) % 64 by omega] at e2
   show (_ ^^ _) = ((_ ^^ _) ^^ (_ ^^ _))
   revert e2
   generalize (par a x).getLsbD (z % 64) = q1
   generalize (par b x).getLsbD (z % 64) = q2
   generalize (par a (x + 4)).getLsbD (z % 64) = q3
   generalize (par b (x + 4)).getLsbD (z % 64) = q4
   generalize (par a (x + 1)).getLsbD ((z + 63) % 64) = q5
   generalize (par b (x + 1)).getLsbD ((z + 63) % 64) = q6
   revert q1 q2 q3 q4 q5 q6
   decide
 have hab : ∀ x, par a x = par b x := fun x => by
  apply BitVec.eq_of_getLsbD_eq
  intro i hi
  have := hr x i
  simp only [r] at this
  rw [Nat.mod_eq_of_lt hi] at this
  revert this
  cases (par a x).getLsbD i <;> cases (par b x).getLsbD i <;> simp
 intro i hi
 have e := h i hi
 have ed : dif a i = dif b i := by unfold dif; rw [hab, hab]
 unfold theta at e
 rw [ed] at e
 have := congrArg (· ^^^ dif b i) e
 simpa [BitVec.xor_assoc] using this
def chi (a : St) : St := fun i => a i ^^^ (~~~ a (i - i % 5 + (i + 1) % 5) &&& a (i - i % 5 + (i + 2) % 5))
theorem chi5 : ∀ a0 a1 a2 a3 a4 b0 b1 b2 b3 b4 : Bool, (a0 ^^ (!a1 && a2)) = (b0 ^^ (!b1 && b2)) → (a1 ^^ (!a2 && a3)) = (b1 ^^ (!b2 && b3)) → (a2 ^^ (!a3 && a4)) = (b2 ^^ (!b3 && b4)) → (a3 ^^ (!a4 && a0)) = (b3 ^^ (!b4 && b0)) → (a4 ^^ (!a0 && a1)) = (b4 ^^ (!b0 && b1)) → a0 = b0 ∧ a1 = b1 ∧ a2 = b2 ∧ a3 = b3 ∧ a4 = b4 := by decide
theorem chi_inj {a b : St} (h : Eq25 (chi a) (chi b)) : Eq25 a b := by
 intro i hi
 apply BitVec.eq_of_getLsbD_eq
 intro z hz
 have hy : i = 5 * (i / 5) + i % 5 := by omega
 have row : ∀ k, k < 5 → chi a (5 * (i / 5) + k) = chi b (5 * (i / 5) + k) := fun k hk => h _ (by omega)
 have at_ : ∀ (a : St) (k : Nat), k < 5 → (chi a (5 * (i / 5) + k)).getLsbD z = ((a (5 * (i / 5) + k)).getLsbD z ^^ (!(a (5 * (i / 5) + (k + 1) % 5)).getLsbD z && (a (5 * (i / 5) + (k + 2) % 5)).getLsbD z)) := by
  intro a k hk
  unfold chi
  rw [show 5 * (i / 5) + k - (5 * (i / 5) + k) % 5 = 5 * (i / 5) by omega, show (5 * (i / 5) + k + 1) % 5 = (k + 1) % 5 by omega, show (5 * (i / 5) + k + 2) % 5 = (k + 2) % 5 by omega]
  simp only [BitVec.getLsbD_xor, BitVec.getLsbD_and, BitVec.getLsbD_not, hz, decide_true, Bool.true_and]
 have e : ∀ k, k < 5 → _ := fun k hk => congrArg (fun u : Ln => u.getLsbD z) (row k hk)
 have e0 := e 0 (by omega)
 have e1 := e 1 (by omega)
 have e2 := e 2 (by omega)
 have e3 := e 3 (by omega)
 have e4 := e 4 (by omega)
 simp only [at_ _ 0 (by omega), at_ _ 1 (by omega), at_ _ 2 (by omega), at_ _ 3 (by omega), at_ _ 4 (by omega), Nat.reduceAdd, Nat.reduceMod] at e0 e1 e2 e3 e4
 obtain ⟨k0, k1, k2, k3, k4⟩ := chi5 _ _ _ _ _ _ _ _ _ _ e0 e1 e2 e3 e4
 have h5 : i % 5 < 5 := Nat.mod_lt _ (by decide)
 rw [hy]
 generalize i % 5 = m at h5
 match m, h5 with
 | 0, _ => exact k0
 | 1, _ => exact k1
 | 2, _ => exact k2
 | 3, _ => exact k3
 | 4, _ => exact k4
theorem pigeon : ∀ (N : Nat) (f : Nat → Nat), (∀ i, i ≤ N → f i < N) → ∃ i j, i < j ∧ j ≤ N ∧ f i = f j
 | 0, f, h => absurd (h 0 (Nat.le_refl _)) (by omega)
 | N + 1, f, h => by
  -- is the last value met ahead?
  by_cases hm : ∃ i, i < N + 1 ∧ f i = f (N + 1)
  ·obtain ⟨i, h1, h2⟩ := hm
   exact ⟨i, N + 1, h1, Nat.le_refl _, h2⟩
  ·-- else swap it with the greatest
   let g : Nat → Nat := fun i => if f i = N then f (N + 1) else f i
   have hg : ∀ i, i ≤ N → g i < N := by
    intro i hi
    have h1 := h i (by omega)
    have h2 := h (N + 1) (by omega)
    have h3 : f i ≠ f (N + 1) := fun e => hm ⟨i, by omega, e⟩
    show (if f i = N then f (N + 1) else f i) < N
    split <;> omega
   obtain ⟨i, j, h1, h2, h3⟩ := pigeon N g hg
   refine ⟨i, j, h1, by omega, ?_⟩
   have h4 : f i ≠ f (N + 1) := fun e => hm ⟨i, by omega, e⟩
   have h5 : f j ≠ f (N + 1) := fun e => hm ⟨j, by omega, e⟩
   change (if f i = N then f (N + 1) else f i) = (if f j = N then f (N + 1) else f j) at h3
   split at h3 <;> split at h3 <;> omega
def px : Nat → Nat × Nat
 | 0 => (1, 0)
 | t + 1 => ((px t).2, (2 * (px t).1 + 3 * (px t).2) % 5)
def ps (t : Nat) : Nat := (px t).1 + 5 * (px t).2
def rhoN (a : St) : Nat → St
 | 0 => a
 | t + 1 => fun i => if i = ps (t + 1) then rot (a (ps t)) ((t + 1) * (t + 2) / 2) else rhoN a t i
def rho (a : St) : St := rhoN a 24
theorem ps_lt (t : Nat) (h : t ≤ 24) : ps t < 25 := by
 have : ∀ t : Fin 25, ps t.1 < 25 := by decide
 exact this ⟨t, by omega⟩
theorem ps_ne (t u : Nat) (ht : t ≤ 24) (hu : u ≤ 24) (h0 : 0 < t) (h1 : 0 < u) (h : ps t = ps u) : t = u := by
 have : ∀ t u : Fin 25, 0 < t.1 → 0 < u.1 → ps t.1 = ps u.1 → t.1 = u.1 := by decide
 exact this ⟨t, by omega⟩ ⟨u, by omega⟩ h0 h1 h
theorem ps_all (i : Nat) (h : i < 25) : i = 0 ∨ ∃ t, t < 24 ∧ ps t = i := by
 have : ∀ i : Fin 25, i.1 = 0 ∨ ∃ t : Fin 24, ps t.1 = i.1 := by decide
 rcases this ⟨i, h⟩ with h | ⟨t, h⟩
 ·exact .inl h
 ·exact .inr ⟨t.1, t.2, h⟩
theorem rhoN_at (a : St) : ∀ n, n ≤ 24 → ∀ t, t < n → rhoN a n (ps (t + 1)) = rot (a (ps t)) ((t + 1) * (t + 2) / 2)
 | 0, _, t, h => absurd h (by omega)
 | n + 1, hn, t, h => by
  simp only [rhoN]
  by_cases e : t = n
  ·subst e; rw [if_pos rfl]
  ·rw [if_neg (fun h' => e (by have := ps_ne _ _ (by omega) (by omega) (by omega) (by omega) h'; omega))]
   exact rhoN_at a n (by omega) t (by omega)
theorem ps_zero (t : Nat) (h : t ≤ 24) : ps t ≠ 0 := by
 have : ∀ t : Fin 25, ps t.1 ≠ 0 := by decide
 exact this ⟨t, by omega⟩
theorem rhoN_zero (a : St) : ∀ n, n ≤ 24 → rhoN a n 0 = a 0
 | 0, _ => rfl
 | n + 1, hn => by
  simp only [rhoN]
  rw [if_neg (fun h => ps_zero (n + 1) hn h.symm)]
  exact rhoN_zero a n (by omega)
theorem rho_inj {a b : St} (h : Eq25 (rho a) (rho b)) : Eq25 a b := by
 intro i hi
 rcases ps_all i hi with rfl | ⟨t, ht, rfl⟩
 ·have := h 0 (by omega)
  unfold rho at this
  rwa [rhoN_zero a 24 (Nat.le_refl _), rhoN_zero b 24 (Nat.le_refl _)] at this
 ·have := h _ (ps_lt (t + 1) (by omega))
  unfold rho at this
  rw [rhoN_at a 24 (Nat.le_refl _) t ht, rhoN_at b 24 (Nat.le_refl _) t ht] at this
  exact rot_inj this
theorem rhoN_congr {a b : St} (h : Eq25 a b) : ∀ n, n ≤ 24 → Eq25 (rhoN a n) (rhoN b n)
 | 0, _ => h
 | n + 1, hn => fun i hi => by
  simp only [rhoN]
  split
  ·rw [h _ (ps_lt n (by omega))]
  ·exact rhoN_congr h n (by omega) i hi
def iota (c : Ln) (a : St) : St := fun i => if i = 0 then a 0 ^^^ c else a i
def round (c : Ln) (a : St) : St := iota c (chi (rho (theta a)))
def rounds : List Ln → St → St
 | [], a => a
 | c :: l, a => rounds l (round c a)
theorem iota_inj {c : Ln} {a b : St} (h : Eq25 (iota c a) (iota c b)) : Eq25 a b := by
 intro i hi
 have := h i hi
 unfold iota at this
 by_cases e : i = 0
 ·subst e
  rw [if_pos rfl, if_pos rfl] at this
  have := congrArg (· ^^^ c) this
  simpa [BitVec.xor_assoc] using this
 ·rwa [if_neg e, if_neg e] at this
theorem theta_congr {a b : St} (h : Eq25 a b) : Eq25 (theta a) (theta b) := by
 have hp : ∀ x, par a x = par b x := fun x => by
  have hx : x % 5 < 5 := Nat.mod_lt _ (by decide)
  unfold par
  rw [h _ (by omega), h _ (by omega), h _ (by omega), h _ (by omega), h _ (by omega)]
 intro i hi
 unfold theta dif
 rw [h i hi, hp, hp]
theorem chi_congr {a b : St} (h : Eq25 a b) : Eq25 (chi a) (chi b) := by
 intro i hi
 unfold chi
 rw [h i hi, h _ (by omega), h _ (by omega)]
theorem round_inj {c : Ln} {a b : St} (h : Eq25 (round c a) (round c b)) : Eq25 a b := theta_inj (rho_inj (chi_inj (iota_inj h)))
theorem round_congr {c : Ln} {a b : St} (h : Eq25 a b) : Eq25 (round c a) (round c b) := by
 have h1 := chi_congr (rhoN_congr (theta_congr h) 24 (Nat.le_refl _))
 intro i hi
 show (if i = 0 then chi (rhoN (theta a) 24) 0 ^^^ c else chi (rhoN (theta a) 24) i) = (if i = 0 then chi (rhoN (theta b) 24) 0 ^^^ c else chi (rhoN (theta b) 24) i)
 split
 ·rw [h1 0 (by omega)]
 ·exact h1 i hi
theorem rounds_inj : ∀ (l : List Ln) {a b : St}, Eq25 (rounds l a) (rounds l b) → Eq25 a b
 | [], _, _, h => h
 | _ :: l, _, _, h => round_inj (rounds_inj l h)
theorem rounds_congr : ∀ (l : List Ln) {a b : St}, Eq25 a b → Eq25 (rounds l a) (rounds l b)
 | [], _, _, h => h
 | _ :: l, _, _, h => rounds_congr l (round_congr h)
def enc (a : St) : Nat → Nat
 | 0 => 0
 | n + 1 => enc a n * 2 ^ 64 + (a n).toNat
theorem enc_lt (a : St) : ∀ n, enc a n < (2 ^ 64) ^ n
 | 0 => by simp [enc]
 | n + 1 => by
  have h1 := enc_lt a n
  have h2 := (a n).isLt
  have e : (2 ^ 64) ^ (n + 1) = (2 ^ 64) ^ n * 2 ^ 64 := Nat.pow_succ ..
  simp only [enc]
  rw [e]
  generalize (2 ^ 64) ^ n = M at h1 ⊢
  omega
theorem enc_inj {a b : St} : ∀ n, enc a n = enc b n → ∀ i, i < n → a i = b i
 | 0, _, i, h => absurd h (by omega)
 | n + 1, h, i, hi => by
  simp only [enc] at h
  have h1 := (a n).isLt
  have h2 := (b n).isLt
  have h3 : enc a n = enc b n := by omega
  by_cases e : i = n
  ·subst e
   exact BitVec.eq_of_toNat_eq (by omega)
  ·exact enc_inj n h3 i (by omega)
def iter (f : St → St) : Nat → St → St
 | 0, a => a
 | n + 1, a => f (iter f n a)
theorem iter_inj {f : St → St} (hf : ∀ {a b}, Eq25 (f a) (f b) → Eq25 a b) : ∀ n {a b}, Eq25 (iter f n a) (iter f n b) → Eq25 a b
 | 0, _, _, h => h
 | n + 1, _, _, h => iter_inj hf n (hf h)
theorem iter_add (f : St → St) (m : Nat) (a : St) : ∀ n, iter f (m + n) a = iter f n (iter f m a)
 | 0 => rfl
 | n + 1 => by show f (iter f (m + n) a) = f (iter f n (iter f m a)); rw [iter_add f m a n]
theorem again {f : St → St} (hf : ∀ {a b}, Eq25 (f a) (f b) → Eq25 a b) (s : St) : ∃ n, 0 < n ∧ Eq25 (iter f n s) s := by
 obtain ⟨i, j, h1, _, h3⟩ := pigeon ((2 ^ 64) ^ 25) (fun i => enc (iter f i s) 25) (fun i _ => enc_lt _ _)
 have h4 : Eq25 (iter f i s) (iter f j s) := enc_inj 25 h3
 refine ⟨j - i, by omega, ?_⟩
 have e : iter f j s = iter f i (iter f (j - i) s) := by rw [← iter_add, show j - i + i = j by omega]
 rw [e] at h4
 have := iter_inj hf i h4
 exact fun k hk => (this k hk).symm
theorem iter_congr {f : St → St} (hc : ∀ {a b}, Eq25 a b → Eq25 (f a) (f b)) : ∀ n {a b}, Eq25 a b → Eq25 (iter f n a) (iter f n b)
 | 0, _, _, h => h
 | n + 1, _, _, h => hc (iter_congr hc n h)
theorem again_late {f : St → St} (hf : ∀ {a b}, Eq25 (f a) (f b) → Eq25 a b) (hc : ∀ {a b}, Eq25 a b → Eq25 (f a) (f b)) (s : St) : ∀ m : Nat, ∃ n, m < n ∧ Eq25 (iter f n s) s
 | 0 => again hf s
 | m + 1 => by
  obtain ⟨n, h1, h2⟩ := again_late hf hc s m
  obtain ⟨k, h3, h4⟩ := again hf s
  refine ⟨n + k, by omega, fun i hi => ?_⟩
  rw [iter_add, iter_congr hc k h2 i hi, h4 i hi]
end Go.Mi.Ke
namespace Go.Sx
open Go.Mi Go.RowKit
def thC (a : Nat → Int) : Nat → Nat → Int
 | 0 => fun _ => 0
 | i + 1 => upd (thC a i) (i % 5) (ixor .u64 (thC a i (i % 5)) (a i))
def rotl (x k : Int) : Int := ior .u64 (ishl .u64 x (iand .u64 (IntKind.wrap .u64 k) 63)) (ishr .u64 x (isub .u64 64 (iand .u64 (IntKind.wrap .u64 k) 63)))
def thA (a c : Nat → Int) : Nat → Nat → Int
 | 0 => a
 | i + 1 => upd (thA a c i) i (ixor .u64 (thA a c i i) (ixor .u64 (c ((i % 5 + 4) % 5)) (rotl (c ((i % 5 + 1) % 5)) 1)))
def theta (a : Nat → Int) : Nat → Int := thA a (thC a 25) 25
def rhoA (a : Nat → Int) : Nat → Nat → Int
 | 0 => a
 | t + 1 => upd (rhoA a t) ((Ke.px (t + 1)).1 + 5 * (Ke.px (t + 1)).2) (rotl (a ((Ke.px t).1 + 5 * (Ke.px t).2)) (iquo .i64 (imul .i64 ((t + 1 : Nat) : Int) ((t + 2 : Nat) : Int)) 2))
def rho (a : Nat → Int) : Nat → Int := rhoA a 24
def chiA (a : Nat → Int) : Nat → Nat → Int
 | 0 => a
 | i + 1 => upd (chiA a i) i (ixor .u64 (chiA a i i) (iand .u64 (inot .u64 (a (i - i % 5 + (i + 1) % 5))) (a (i - i % 5 + (i + 2) % 5))))
def chi (a : Nat → Int) : Nat → Int := chiA a 25
def RC : Nat → Int := upd (upd (upd (upd (upd (upd (upd (upd (upd (upd (upd (upd (upd (upd (upd (upd (upd (upd (upd (upd (upd (upd (upd (upd (fun _ => 0) 0 1) 1 32898) 2 9223372036854808714) 3 9223372039002292224) 4 32907) 5 2147483649) 6 9223372039002292353) 7 9223372036854808585) 8 138) 9 136) 10 2147516425) 11 2147483658) 12 2147516555) 13 9223372036854775947) 14 9223372036854808713) 15 9223372036854808579) 16 9223372036854808578) 17 9223372036854775936) 18 32778) 19 9223372039002259466) 20 9223372039002292353) 21 9223372036854808704) 22 2147483649) 23 9223372039002292232
def kstp : Nat → (Nat → Int) → Nat → Int
 | 0 => theta
 | 1 => rho
 | _ => chi
def kst (b : Nat → Int) : Nat → Nat → Int
 | 0 => b
 | j + 1 => kstp j (kst b j)
def perA (a : Nat → Int) : Nat → Nat → Int
 | 0 => a
 | i + 1 => upd (kst (perA a i) 3) 0 (ixor .u64 (kst (perA a i) 3 0) (RC i))
def perm (a : Nat → Int) : Nat → Int := perA a 24
theorem kst_s (b f : Nat → Int) (j : Nat) (h : f = kst b j) : kstp j f = kst b (j + 1) := by rw [h]; rfl
theorem per_s (a b f : Nat → Int) (i : Nat) (hb : b = perA a i) (h : f = kst b 3) : upd f 0 (ixor .u64 (f 0) (RC i)) = perA a (i + 1) := by rw [h, hb]; rfl
end Go.Sx
namespace Go.Sx.Try
open Go.Mi Go.RowKit Go.Sx Go.Proofs
noncomputable section
def c_rot64 (x k : Int) : Con := ⟨[.v (.int .u64 x), vi k], [], .v (.int .u64 (rotl x k)), []⟩
theorem rot64_ok (x k : Int) : ConOk Try.prog 126 (c_rot64 x k) := by
 refine conOk_of rfl (nb := 0) Try.func126 rfl rfl Try.ntmps126 rfl rfl rfl fun g0 w0 ac gs ws hg0 hS => ?_
 have hS := hS.sp
 refine s0 [0, 1, 4] [] 0 hS fun hS => ?_
 refine s0 [0, 4, 5] [] 0 hS fun hS => ?_
 refine sA [] trivial (fun _ => [(0 : Int) ≤ (iand .u64 (IntKind.wrap .u64 k) 63), (0 : Int) ≤ (isub .u64 64 (iand .u64 (IntKind.wrap .u64 k) 63))]) [4] [] 0 ⟨wrap_nn rfl, wrap_nn rfl, trivial⟩ hS fun hS => ?_
 refine wp_ret ?_
 exact fin_y rfl (.inr rfl) hS [.v (.int .u64 (ior .u64 (ishl .u64 x (iand .u64 (IntKind.wrap .u64 k) 63)) (ishr .u64 x (isub .u64 64 (iand .u64 (IntKind.wrap .u64 k) 63)))))] [] rfl trivial

def c_theta (a : Nat → Int) : Con := ⟨[.ar .u64 25 a], [], .ar .u64 25 (theta a), []⟩
theorem theta_ok (a : Nat → Int) : ConOk Try.prog 116 (c_theta a) := by
 refine conOk_of rfl (nb := 0) Try.func116 rfl rfl Try.ntmps116 rfl rfl rfl fun g0 w0 ac gs ws hg0 hS => ?_
 have hS := hS.sp
 refine s0 [1, 2] [0, 1] 2 hS fun hS => ?_
 refine s0 [1, 2, 3] [0, 1, 2] 3 hS fun hS => ?_
 refine wp_seq (s0 [1, 2, 3, 8, 9] [0, 1, 2] 3 hS fun hS => ?_)
 refine wp_block (loop_y (ι := Nat) hg0 hS (fun i => 25 - i) (fun i => [(1, .cp 0 0), (2, .cp 1 0), (3, .cp 2 0), (8, .ar .u64 25 a), (9, vi ((i : Nat) : Int))]) (fun i => [(0, .ob 155 (chain [.ar .u64 25 a])), (1, .ob 155 (chain [.ar .u64 25 (fun _ => 0)])), (2, .ob 154 (chain [.ar .u64 5 (thC a i)]))]) (fun i => (i ≤ 25) ∧ True) 3 0 [(0, 0), (1, 1), (2, 2)] ⟨omm, trivial⟩ ?_)
 rintro i ac gs ws ⟨hi, _⟩ hS
 refine s0 [1, 2, 3, 8, 9, 10] [0, 1, 2] 3 hS fun hS => ?_
 refine wp_seq ?_
 refine if_d ((i : Int) < 25) hS (fun h1 => ?_) (fun h1 => ?_)
 ·refine wp_skip (then_n (wp_seq (wp_block (sA [] trivial (fun _ => [(0 : Int) ≤ (i : Int) ∧ ((i : Int) : Int) < 25]) [1, 2, 3, 4, 5, 8, 9] [0, 1, 2] 3 ⟨by omega, trivial⟩ hS fun hS => ?_))))
  refine rA [(1, .oi ((i % 5 : Nat) : Int))] trivial (fun _ => [irem (i : Int) 5 = ((i % 5 : Nat) : Int), (5 : Int) ≠ 0, (0 : Int) ≤ ((i % 5 : Nat) : Int) ∧ (((i % 5 : Nat) : Int) : Int) < 5, (0 : Int) ≤ ((i % 5 : Nat) : Int) ∧ (((i % 5 : Nat) : Int) : Int) < 5]) [1, 2, 3, 8, 9] [0, 1, 2] 3 ⟨by rw [irem64 omm]; omega, by omega, by omega, by omega, trivial⟩ hS fun hS => ?_
  refine block_n (then_n (rA [(0, .oi ((i + 1 : Nat) : Int))] trivial (fun _ => [iadd .i64 (i : Int) 1 = ((i + 1 : Nat) : Int)]) [1, 2, 3, 8, 9] [0, 1, 2] 3 ⟨by rw [iadd64 omm omm]; omega, trivial⟩ hS fun hS => ?_))
  refine then_n ?_
  exact next_y hg0 hS (s := (i)) (i + 1) [(0, 0), (1, 1), (2, 2)] (show 25 - (i + 1) < 25 - i from by omega) ⟨omm, trivial⟩
 ·have hScur := hS
  obtain rfl : 25 = i := by omega
  have hS := hScur
  clear hScur
  refine wp_exit (then_exit (then_exit (block_exit (then_n (wp_seq (s0 [1, 2, 3, 21] [0, 1, 2] 3 hS fun hS => ?_))))))
  refine wp_block (loop_y (ι := Nat) hg0 hS (fun i => 25 - i) (fun i => [(1, .cp 0 0), (2, .cp 1 0), (3, .cp 2 0), (21, vi ((i : Nat) : Int))]) (fun i => [(0, .ob 155 (chain [.ar .u64 25 (thA a (thC a 25) i)])), (1, .ob 155 (chain [.ar .u64 25 (fun _ => 0)])), (2, .ob 154 (chain [.ar .u64 5 (thC a 25)]))]) (fun i => (i ≤ 25) ∧ True) 3 0 [(0, 0), (1, 1), (2, 2)] ⟨omm, trivial⟩ ?_)
  rintro i ac gs ws ⟨hi, _⟩ hS
  refine s0 [1, 2, 3, 21, 22] [0, 1, 2] 3 hS fun hS => ?_
  refine wp_seq ?_
  refine if_d ((i : Int) < 25) hS (fun h2 => ?_) (fun h2 => ?_)
  ·refine wp_skip (then_n (wp_seq (wp_block (s0 [1, 2, 3, 6, 21] [0, 1, 2] 3 hS fun hS => ?_))))
   refine sA [(1, .oi ((i % 5 : Nat) : Int))] trivial (fun _ => [irem (i : Int) 5 = ((i % 5 : Nat) : Int), (5 : Int) ≠ 0]) [1, 2, 3, 6, 7, 21] [0, 1, 2] 3 ⟨by rw [irem64 omm]; omega, by omega, trivial⟩ hS fun hS => ?_
   refine rA [(4, .oi (((i % 5) + 5 : Nat) : Int)), (5, .oi (((i % 5) + 4 : Nat) : Int)), (6, .oi ((((i % 5) + 4) % 5 : Nat) : Int)), (10, .oi (((i % 5) + 1 : Nat) : Int)), (11, .oi ((((i % 5) + 1) % 5 : Nat) : Int)), (14, .call ⟨126, (c_rot64 ((thC a 25) (((i % 5) + 1) % 5)) 1), [], []⟩)] ⟨rot64_ok _ _, trivial⟩ (fun C => [(0 : Int) ≤ (i : Int) ∧ ((i : Int) : Int) < 25, iadd .i64 ((i % 5 : Nat) : Int) 5 = (((i % 5) + 5 : Nat) : Int), isub .i64 (((i % 5) + 5 : Nat) : Int) 1 = (((i % 5) + 4 : Nat) : Int), irem (((i % 5) + 4 : Nat) : Int) 5 = ((((i % 5) + 4) % 5 : Nat) : Int), (5 : Int) ≠ 0, (0 : Int) ≤ ((((i % 5) + 4) % 5 : Nat) : Int) ∧ (((((i % 5) + 4) % 5 : Nat) : Int) : Int) < 5, iadd .i64 ((i % 5 : Nat) : Int) 1 = (((i % 5) + 1 : Nat) : Int), irem (((i % 5) + 1 : Nat) : Int) 5 = ((((i % 5) + 1) % 5 : Nat) : Int), (5 : Int) ≠ 0, (0 : Int) ≤ ((((i % 5) + 1) % 5 : Nat) : Int) ∧ (((((i % 5) + 1) % 5 : Nat) : Int) : Int) < 5, ndC C 14, (0 : Int) ≤ (i : Int) ∧ ((i : Int) : Int) < 25]) [1, 2, 3, 21] [0, 1, 2] 3 ⟨by omega, by rw [iadd64 omm omm]; omega, by rw [isub64 omm omm]; omega, by rw [irem64 omm]; omega, by omega, by omega, by rw [iadd64 omm omm]; omega, by rw [irem64 omm]; omega, by omega, by omega, rfl, by omega, trivial⟩ hS fun hS => ?_
   refine block_n (then_n (rA [(0, .oi ((i + 1 : Nat) : Int))] trivial (fun _ => [iadd .i64 (i : Int) 1 = ((i + 1 : Nat) : Int)]) [1, 2, 3, 21] [0, 1, 2] 3 ⟨by rw [iadd64 omm omm]; omega, trivial⟩ hS fun hS => ?_))
   refine then_n ?_
   exact next_y hg0 hS (s := (i)) (i + 1) [(0, 0), (1, 1), (2, 2)] (show 25 - (i + 1) < 25 - i from by omega) ⟨omm, trivial⟩
  ·have hScur := hS
   obtain rfl : 25 = i := by omega
   have hS := hScur
   clear hScur
   refine wp_exit (then_exit (then_exit (block_exit (then_n (s0 [2] [1] 3 hS fun hS => ?_)))))
   refine wp_ret ?_
   exact fin_y rfl (.inr rfl) hS [.ar .u64 25 (thA a (thC a 25) 25)] [] rfl trivial

def c_rho (a : Nat → Int) : Con := ⟨[.ar .u64 25 a], [], .ar .u64 25 (rho a), []⟩
theorem rho_ok (a : Nat → Int) : ConOk Try.prog 117 (c_rho a) := by
 refine conOk_of rfl (nb := 0) Try.func117 rfl rfl Try.ntmps117 rfl rfl rfl fun g0 w0 ac gs ws hg0 hS => ?_
 have hS := hS.sp
 refine s0 [1, 2] [0, 1] 2 hS fun hS => ?_
 refine s0 [1, 2, 3] [0, 1, 2] 3 hS fun hS => ?_
 refine s0 [1, 2, 3, 4, 5] [0, 1, 2] 3 hS fun hS => ?_
 refine wp_seq (s0 [1, 2, 3, 4, 5, 9] [0, 1, 2] 3 hS fun hS => ?_)
 refine wp_block (loop_y (ι := Nat × Nat × Nat × (Nat → Int)) hg0 hS (fun z_ => match z_ with | (t, x, y, f) => 24 - t) (fun z_ => match z_ with | (t, x, y, f) => [(1, .cp 0 0), (2, .cp 1 0), (3, .cp 2 0), (4, vi ((x : Nat) : Int)), (5, vi ((y : Nat) : Int)), (9, vi ((t : Nat) : Int))]) (fun z_ => match z_ with | (t, x, y, f) => [(0, .ob 155 (chain [.ar .u64 25 a])), (1, .ob 155 (chain [.ar .u64 25 (fun _ => 0)])), (2, .ob 155 (chain [.ar .u64 25 f]))]) (fun z_ => match z_ with | (t, x, y, f) => (t ≤ 24) ∧ (x < 5) ∧ (y < 5) ∧ (x = (Ke.px t).1) ∧ (y = (Ke.px t).2) ∧ (f = rhoA a t) ∧ True) 3 (0, 1, 0, a) [(0, 0), (1, 1), (2, 2)] ⟨omm, omm, omm, rfl, rfl, rfl, trivial⟩ ?_)
 rintro ⟨t, x, y, f⟩ ac gs ws ⟨ht, hx5, hy5, hx, hy, hf, _⟩ hS
 refine s0 [1, 2, 3, 4, 5, 9, 10] [0, 1, 2] 3 hS fun hS => ?_
 refine wp_seq ?_
 refine if_d ((t : Int) < 24) hS (fun h1 => ?_) (fun h1 => ?_)
 ·refine wp_skip (then_n (wp_seq (wp_block (s0 [1, 2, 3, 4, 5, 6, 9] [0, 1, 2] 3 hS fun hS => ?_))))
  refine sA [(2, .oi ((5 * y : Nat) : Int)), (3, .oi ((x + (5 * y) : Nat) : Int)), (7, .oi ((t + 1 : Nat) : Int)), (9, .oi ((t + 2 : Nat) : Int)), (12, .call ⟨126, (c_rot64 (a (x + (5 * y))) (iquo .i64 (imul .i64 ((t + 1 : Nat) : Int) ((t + 2 : Nat) : Int)) 2)), [], []⟩)] ⟨rot64_ok _ _, trivial⟩ (fun C => [imul .i64 5 (y : Int) = ((5 * y : Nat) : Int), iadd .i64 (x : Int) ((5 * y : Nat) : Int) = ((x + (5 * y) : Nat) : Int), (0 : Int) ≤ ((x + (5 * y) : Nat) : Int) ∧ (((x + (5 * y) : Nat) : Int) : Int) < 25, iadd .i64 (t : Int) 1 = ((t + 1 : Nat) : Int), iadd .i64 (t : Int) 2 = ((t + 2 : Nat) : Int), (2 : Int) ≠ 0, ndC C 12]) [1, 2, 3, 4, 5, 7, 9] [0, 1, 2] 3 ⟨by rw [imul64 omm omm]; omega, by rw [iadd64 omm omm]; omega, by omega, by rw [iadd64 omm omm]; omega, by rw [iadd64 omm omm]; omega, by omega, rfl, trivial⟩ hS fun hS => ?_
  refine sA [(2, .oi ((2 * x : Nat) : Int)), (4, .oi ((3 * y : Nat) : Int)), (5, .oi (((2 * x) + (3 * y) : Nat) : Int)), (6, .oi ((((2 * x) + (3 * y)) % 5 : Nat) : Int))] trivial (fun _ => [imul .i64 2 (x : Int) = ((2 * x : Nat) : Int), imul .i64 3 (y : Int) = ((3 * y : Nat) : Int), iadd .i64 ((2 * x : Nat) : Int) ((3 * y : Nat) : Int) = (((2 * x) + (3 * y) : Nat) : Int), irem (((2 * x) + (3 * y) : Nat) : Int) 5 = ((((2 * x) + (3 * y)) % 5 : Nat) : Int), (5 : Int) ≠ 0]) [1, 2, 3, 4, 5, 7, 9] [0, 1, 2] 3 ⟨by rw [imul64 omm omm]; omega, by rw [imul64 omm omm]; omega, by rw [iadd64 omm omm]; omega, by rw [irem64 omm]; omega, by omega, trivial⟩ hS fun hS => ?_
  refine rA [(2, .oi ((5 * (((2 * x) + (3 * y)) % 5) : Nat) : Int)), (3, .oi ((y + (5 * (((2 * x) + (3 * y)) % 5)) : Nat) : Int))] trivial (fun _ => [imul .i64 5 ((((2 * x) + (3 * y)) % 5 : Nat) : Int) = ((5 * (((2 * x) + (3 * y)) % 5) : Nat) : Int), iadd .i64 (y : Int) ((5 * (((2 * x) + (3 * y)) % 5) : Nat) : Int) = ((y + (5 * (((2 * x) + (3 * y)) % 5)) : Nat) : Int), (0 : Int) ≤ ((y + (5 * (((2 * x) + (3 * y)) % 5)) : Nat) : Int) ∧ (((y + (5 * (((2 * x) + (3 * y)) % 5)) : Nat) : Int) : Int) < 25]) [1, 2, 3, 4, 5, 9] [0, 1, 2] 3 ⟨by rw [imul64 omm omm]; omega, by rw [iadd64 omm omm]; omega, by omega, trivial⟩ hS fun hS => ?_
  refine block_n (then_n (rA [(0, .oi ((t + 1 : Nat) : Int))] trivial (fun _ => [iadd .i64 (t : Int) 1 = ((t + 1 : Nat) : Int)]) [1, 2, 3, 4, 5, 9] [0, 1, 2] 3 ⟨by rw [iadd64 omm omm]; omega, trivial⟩ hS fun hS => ?_))
  refine then_n ?_
  exact next_y hg0 hS (s := (t, x, y, f)) (t + 1, y, ((2 * x) + (3 * y)) % 5, upd f (y + (5 * (((2 * x) + (3 * y)) % 5))) (rotl (a (x + (5 * y))) (iquo .i64 (imul .i64 ((t + 1 : Nat) : Int) ((t + 2 : Nat) : Int)) 2))) [(0, 0), (1, 1), (2, 2)] (show 24 - (t + 1) < 24 - t from by omega) ⟨omm, omm, omm, hy, (by rw [hx, hy]; rfl), (by rw [hf, hx, hy]; rfl), trivial⟩
 ·have hScur := hS
  obtain rfl : 24 = t := by omega
  obtain rfl : rho a = f := Eq.symm hf
  have hS := hScur
  clear hScur
  refine wp_exit (then_exit (then_exit (block_exit (then_n (s0 [2] [1] 3 hS fun hS => ?_)))))
  refine wp_ret ?_
  exact fin_y rfl (.inr rfl) hS [.ar .u64 25 (rho a)] [] rfl trivial

def c_chi (a : Nat → Int) : Con := ⟨[.ar .u64 25 a], [], .ar .u64 25 (chi a), []⟩
theorem chi_ok (a : Nat → Int) : ConOk Try.prog 118 (c_chi a) := by
 refine conOk_of rfl (nb := 0) Try.func118 rfl rfl Try.ntmps118 rfl rfl rfl fun g0 w0 ac gs ws hg0 hS => ?_
 have hS := hS.sp
 refine s0 [1, 2] [0, 1] 2 hS fun hS => ?_
 refine s0 [1, 2, 3] [0, 1, 2] 3 hS fun hS => ?_
 refine wp_seq (s0 [1, 2, 3, 7] [0, 1, 2] 3 hS fun hS => ?_)
 refine wp_block (loop_y (ι := Nat) hg0 hS (fun i => 25 - i) (fun i => [(1, .cp 0 0), (2, .cp 1 0), (3, .cp 2 0), (7, vi ((i : Nat) : Int))]) (fun i => [(0, .ob 155 (chain [.ar .u64 25 a])), (1, .ob 155 (chain [.ar .u64 25 (fun _ => 0)])), (2, .ob 155 (chain [.ar .u64 25 (chiA a i)]))]) (fun i => (i ≤ 25) ∧ True) 3 0 [(0, 0), (1, 1), (2, 2)] ⟨omm, trivial⟩ ?_)
 rintro i ac gs ws ⟨hi, _⟩ hS
 refine s0 [1, 2, 3, 7, 8] [0, 1, 2] 3 hS fun hS => ?_
 refine wp_seq ?_
 refine if_d ((i : Int) < 25) hS (fun h1 => ?_) (fun h1 => ?_)
 ·refine wp_skip (then_n (wp_seq (wp_block (s0 [1, 2, 3, 4, 7] [0, 1, 2] 3 hS fun hS => ?_))))
  refine sA [(2, .oi ((i % 5 : Nat) : Int)), (3, .oi ((i - (i % 5) : Nat) : Int))] trivial (fun _ => [irem (i : Int) 5 = ((i % 5 : Nat) : Int), (5 : Int) ≠ 0, isub .i64 (i : Int) ((i % 5 : Nat) : Int) = ((i - (i % 5) : Nat) : Int)]) [1, 2, 3, 4, 5, 7] [0, 1, 2] 3 ⟨by rw [irem64 omm]; omega, by omega, by rw [isub64 omm omm]; omega, trivial⟩ hS fun hS => ?_
  refine rA [(5, .oi ((i + 1 : Nat) : Int)), (6, .oi (((i + 1) % 5 : Nat) : Int)), (7, .oi (((i - (i % 5)) + ((i + 1) % 5) : Nat) : Int)), (13, .oi ((i + 2 : Nat) : Int)), (14, .oi (((i + 2) % 5 : Nat) : Int)), (15, .oi (((i - (i % 5)) + ((i + 2) % 5) : Nat) : Int))] trivial (fun _ => [(0 : Int) ≤ (i : Int) ∧ ((i : Int) : Int) < 25, iadd .i64 (i : Int) 1 = ((i + 1 : Nat) : Int), irem ((i + 1 : Nat) : Int) 5 = (((i + 1) % 5 : Nat) : Int), (5 : Int) ≠ 0, iadd .i64 ((i - (i % 5) : Nat) : Int) (((i + 1) % 5 : Nat) : Int) = (((i - (i % 5)) + ((i + 1) % 5) : Nat) : Int), (0 : Int) ≤ (((i - (i % 5)) + ((i + 1) % 5) : Nat) : Int) ∧ ((((i - (i % 5)) + ((i + 1) % 5) : Nat) : Int) : Int) < 25, iadd .i64 (i : Int) 2 = ((i + 2 : Nat) : Int), irem ((i + 2 : Nat) : Int) 5 = (((i + 2) % 5 : Nat) : Int), (5 : Int) ≠ 0, iadd .i64 ((i - (i % 5) : Nat) : Int) (((i + 2) % 5 : Nat) : Int) = (((i - (i % 5)) + ((i + 2) % 5) : Nat) : Int), (0 : Int) ≤ (((i - (i % 5)) + ((i + 2) % 5) : Nat) : Int) ∧ ((((i - (i % 5)) + ((i + 2) % 5) : Nat) : Int) : Int) < 25, (0 : Int) ≤ (i : Int) ∧ ((i : Int) : Int) < 25]) [1, 2, 3, 7] [0, 1, 2] 3 ⟨by omega, by rw [iadd64 omm omm]; omega, by rw [irem64 omm]; omega, by omega, by rw [iadd64 omm omm]; omega, by omega, by rw [iadd64 omm omm]; omega, by rw [irem64 omm]; omega, by omega, by rw [iadd64 omm omm]; omega, by omega, by omega, trivial⟩ hS fun hS => ?_
  refine block_n (then_n (rA [(0, .oi ((i + 1 : Nat) : Int))] trivial (fun _ => [iadd .i64 (i : Int) 1 = ((i + 1 : Nat) : Int)]) [1, 2, 3, 7] [0, 1, 2] 3 ⟨by rw [iadd64 omm omm]; omega, trivial⟩ hS fun hS => ?_))
  refine then_n ?_
  exact next_y hg0 hS (s := (i)) (i + 1) [(0, 0), (1, 1), (2, 2)] (show 25 - (i + 1) < 25 - i from by omega) ⟨omm, trivial⟩
 ·have hScur := hS
  obtain rfl : 25 = i := by omega
  have hS := hScur
  clear hScur
  refine wp_exit (then_exit (then_exit (block_exit (then_n (s0 [2] [1] 3 hS fun hS => ?_)))))
  refine wp_ret ?_
  exact fin_y rfl (.inr rfl) hS [.ar .u64 25 (chiA a 25)] [] rfl trivial

def c_rounds : Con := ⟨[], [], .ar .u64 24 RC, []⟩
theorem rounds_ok : ConOk Try.prog 119 (c_rounds) := by
 refine conOk_of rfl (nb := 0) Try.func119 rfl rfl Try.ntmps119 rfl rfl rfl fun g0 w0 ac gs ws hg0 hS => ?_
 have hS := hS.sp
 refine s0 [0] [0] 1 hS fun hS => ?_
 refine s0 [0] [0] 1 hS fun hS => ?_
 refine wp_ret ?_
 exact fin_y rfl (.inr rfl) hS [.ar .u64 24 (upd (upd (upd (upd (upd (upd (upd (upd (upd (upd (upd (upd (upd (upd (upd (upd (upd (upd (upd (upd (upd (upd (upd (upd (fun _ => 0) 0 1) 1 32898) 2 9223372036854808714) 3 9223372039002292224) 4 32907) 5 2147483649) 6 9223372039002292353) 7 9223372036854808585) 8 138) 9 136) 10 2147516425) 11 2147483658) 12 2147516555) 13 9223372036854775947) 14 9223372036854808713) 15 9223372036854808579) 16 9223372036854808578) 17 9223372036854775936) 18 32778) 19 9223372039002259466) 20 9223372039002292353) 21 9223372036854808704) 22 2147483649) 23 9223372039002292232)] [] rfl trivial

def c_perm (a : Nat → Int) : Con := ⟨[.ar .u64 25 a], [], .ar .u64 25 (perm a), []⟩
theorem perm_ok (a : Nat → Int) : ConOk Try.prog 97 (c_perm a) := by
 refine conOk_of rfl (nb := 0) Try.func97 rfl rfl Try.ntmps97 rfl rfl rfl fun g0 w0 ac gs ws hg0 hS => ?_
 have hS := hS.sp
 refine s0 [1, 2] [0, 1] 2 hS fun hS => ?_
 refine s0 [2, 3] [1, 2] 3 hS fun hS => ?_
 refine s0 [2, 3, 4] [1, 2, 3] 4 hS fun hS => ?_
 refine wp_seq (sA [(0, .call ⟨119, (c_rounds), [], []⟩)] ⟨rounds_ok, trivial⟩ (fun C => [ndC C 0]) [2, 3, 4, 11, 12] [1, 2, 3] 4 ⟨rfl, trivial⟩ hS fun hS => ?_)
 refine wp_block (loop_y (ι := Nat × (Nat → Int)) hg0 hS (fun z_ => match z_ with | (i, f) => 24 - i) (fun z_ => match z_ with | (i, f) => [(2, .cp 1 0), (3, .cp 2 0), (4, .cp 3 0), (11, .ar .u64 24 RC), (12, vi ((i : Nat) : Int))]) (fun z_ => match z_ with | (i, f) => [(1, .ob 137 (chain [.ar .u64 25 (fun _ => 0)])), (2, .ob 155 (chain [.ar .u64 25 f])), (3, .ob 158 (chain [.v (.func (.func 116) #[] #[]), .v (.func (.func 117) #[] #[]), .v (.func (.func 118) #[] #[])]))]) (fun z_ => match z_ with | (i, f) => (i ≤ 24) ∧ (f = perA a i) ∧ True) 4 (0, a) [(1, 1), (2, 2), (3, 3)] ⟨omm, rfl, trivial⟩ ?_)
 rintro ⟨i, f⟩ ac gs ws ⟨hi, hf, _⟩ hS
 refine s0 [2, 3, 4, 11, 12, 13] [1, 2, 3] 4 hS fun hS => ?_
 refine wp_seq ?_
 refine if_d ((i : Int) < 24) hS (fun h1 => ?_) (fun h1 => ?_)
 ·refine wp_skip (then_n (wp_seq (wp_block (sA [] trivial (fun _ => [(0 : Int) ≤ (i : Int) ∧ ((i : Int) : Int) < 24]) [2, 3, 4, 6, 11, 12] [1, 2, 3] 4 ⟨by omega, trivial⟩ hS fun hS => ?_))))
  refine wp_seq (s0 [2, 3, 4, 6, 11, 12, 15, 16] [1, 2, 3] 4 hS fun hS => ?_)
  refine wp_block (loop_y (ι := Nat × (Nat → Int)) hg0 hS (fun z_ => match z_ with | (j, g) => 3 - j) (fun z_ => match z_ with | (j, g) => [(2, .cp 1 0), (3, .cp 2 0), (4, .cp 3 0), (6, .v (.int .u64 (RC i))), (11, .ar .u64 24 RC), (12, vi (i : Int)), (15, .ag (chain [.v (.func (.func 116) #[] #[]), .v (.func (.func 117) #[] #[]), .v (.func (.func 118) #[] #[])])), (16, vi ((j : Nat) : Int))]) (fun z_ => match z_ with | (j, g) => [(1, .ob 137 (chain [.ar .u64 25 (fun _ => 0)])), (2, .ob 155 (chain [.ar .u64 25 g])), (3, .ob 158 (chain [.v (.func (.func 116) #[] #[]), .v (.func (.func 117) #[] #[]), .v (.func (.func 118) #[] #[])]))]) (fun z_ => match z_ with | (j, g) => (j ≤ 3) ∧ (g = kst f j) ∧ True) 4 (0, f) [(1, 1), (2, 2), (3, 3)] ⟨omm, rfl, trivial⟩ ?_)
  rintro ⟨j, g⟩ ac gs ws ⟨hj, hg, _⟩ hS
  refine s0 [2, 3, 4, 6, 11, 12, 15, 16, 17] [1, 2, 3] 4 hS fun hS => ?_
  refine wp_seq ?_
  refine if_d ((j : Int) < 3) hS (fun h2 => ?_) (fun h2 => ?_)
  ·have hScur := hS
   rcases (by omega : j = 0 ∨ j = 1 ∨ j = 2) with rfl | rfl | rfl
   ·have hS := hScur
    clear hScur
    refine wp_skip (then_n (wp_seq (wp_block (sA [] trivial (fun _ => [(0 : Int) ≤ 0 ∧ (0 : Int) < 3]) [2, 3, 4, 6, 8, 11, 12, 15, 16] [1, 2, 3] 4 ⟨by omega, trivial⟩ hS fun hS => ?_))))
    refine rA [(1, .ov (.ar .u64 25 g)), (2, .call ⟨116, (c_theta g), [], []⟩)] ⟨theta_ok _, trivial⟩ (fun C => [(.ar .u64 25 g : D) = (.ar .u64 25 g), ndC C 2]) [2, 3, 4, 6, 11, 12, 15, 16] [1, 2, 3] 4 ⟨rfl, rfl, trivial⟩ hS fun hS => ?_
    refine block_n (then_n (r0 [2, 3, 4, 6, 11, 12, 15, 16] [1, 2, 3] 4 hS fun hS => ?_))
    refine then_n ?_
    exact next_y hg0 hS (s := (0, g)) (1, theta g) [(1, 1), (2, 2), (3, 3)] (show 3 - 1 < 3 - 0 from by omega) ⟨omm, (kst_s _ _ _ hg), trivial⟩
   ·have hS := hScur
    clear hScur
    refine wp_skip (then_n (wp_seq (wp_block (sA [] trivial (fun _ => [(0 : Int) ≤ 1 ∧ (1 : Int) < 3]) [2, 3, 4, 6, 8, 11, 12, 15, 16] [1, 2, 3] 4 ⟨by omega, trivial⟩ hS fun hS => ?_))))
    refine rA [(1, .ov (.ar .u64 25 g)), (2, .call ⟨117, (c_rho g), [], []⟩)] ⟨rho_ok _, trivial⟩ (fun C => [(.ar .u64 25 g : D) = (.ar .u64 25 g), ndC C 2]) [2, 3, 4, 6, 11, 12, 15, 16] [1, 2, 3] 4 ⟨rfl, rfl, trivial⟩ hS fun hS => ?_
    refine block_n (then_n (r0 [2, 3, 4, 6, 11, 12, 15, 16] [1, 2, 3] 4 hS fun hS => ?_))
    refine then_n ?_
    exact next_y hg0 hS (s := (1, g)) (2, rho g) [(1, 1), (2, 2), (3, 3)] (show 3 - 2 < 3 - 1 from by omega) ⟨omm, (kst_s _ _ _ hg), trivial⟩
   ·have hS := hScur
    clear hScur
    refine wp_skip (then_n (wp_seq (wp_block (sA [] trivial (fun _ => [(0 : Int) ≤ 2 ∧ (2 : Int) < 3]) [2, 3, 4, 6, 8, 11, 12, 15, 16] [1, 2, 3] 4 ⟨by omega, trivial⟩ hS fun hS => ?_))))
    refine rA [(1, .ov (.ar .u64 25 g)), (2, .call ⟨118, (c_chi g), [], []⟩)] ⟨chi_ok _, trivial⟩ (fun C => [(.ar .u64 25 g : D) = (.ar .u64 25 g), ndC C 2]) [2, 3, 4, 6, 11, 12, 15, 16] [1, 2, 3] 4 ⟨rfl, rfl, trivial⟩ hS fun hS => ?_
    refine block_n (then_n (r0 [2, 3, 4, 6, 11, 12, 15, 16] [1, 2, 3] 4 hS fun hS => ?_))
    refine then_n ?_
    exact next_y hg0 hS (s := (2, g)) (3, chi g) [(1, 1), (2, 2), (3, 3)] (show 3 - 3 < 3 - 2 from by omega) ⟨omm, (kst_s _ _ _ hg), trivial⟩
  ·have hScur := hS
   obtain rfl : 3 = j := by omega
   have hS := hScur
   clear hScur
   refine wp_exit (then_exit (then_exit (block_exit (then_n (rA [] trivial (fun _ => [(0 : Int) ≤ 0 ∧ (0 : Int) < 25, (0 : Int) ≤ 0 ∧ (0 : Int) < 25]) [2, 3, 4, 11, 12] [1, 2, 3] 4 ⟨by omega, by omega, trivial⟩ hS fun hS => ?_)))))
   refine block_n (then_n (rA [(0, .oi ((i + 1 : Nat) : Int))] trivial (fun _ => [iadd .i64 (i : Int) 1 = ((i + 1 : Nat) : Int)]) [2, 3, 4, 11, 12] [1, 2, 3] 4 ⟨by rw [iadd64 omm omm]; omega, trivial⟩ hS fun hS => ?_))
   refine then_n ?_
   exact next_y hg0 hS (s := (i, f)) (i + 1, upd g 0 (ixor .u64 (g 0) (RC i))) [(1, 1), (2, 2), (3, 3)] (show 24 - (i + 1) < 24 - i from by omega) ⟨omm, (per_s a _ _ i hf hg), trivial⟩
 ·have hScur := hS
  obtain rfl : 24 = i := by omega
  obtain rfl : perm a = f := Eq.symm hf
  have hS := hScur
  clear hScur
  refine wp_exit (then_exit (then_exit (block_exit (then_n (s0 [2] [1] 4 hS fun hS => ?_)))))
  refine wp_ret ?_
  exact fin_y rfl (.inr rfl) hS [.ar .u64 25 (perm a)] [] rfl trivial

end
end Go.Sx.Try
namespace Go.Sx
open Go.Mi Go.RowKit
theorem cat_step (l : List (List Int)) (j : Nat) (h : j < l.length) : (l.take (j + 1)).flatten = (l.take j).flatten ++ l.getD j (rz [.sl (.int .u8)]) := by
 rw [List.take_add_one, List.flatten_append, List.getElem?_eq_getElem h]
 simp [List.getD, List.getElem?_eq_getElem h]
 rfl
theorem cat_len (l : List (List Int)) (j : Nat) (h : j < l.length) : (l.take (j + 1)).flatten.length = (l.take j).flatten.length + (l.getD j (rz [.sl (.int .u8)])).length := by
 rw [cat_step l j h, List.length_append]
theorem flat_take_le (l : List (List Int)) (j : Nat) : (l.take j).flatten.length ≤ l.flatten.length := by
 have h : l.flatten = (l.take j).flatten ++ (l.drop j).flatten := by rw [← List.flatten_append, List.take_append_drop]
 rw [h, List.length_append]
 omega
theorem cat_le {l : List (List Int)} {j c : Nat} (h : j < l.length) (hc : l.flatten.length ≤ c) : (l.take j).flatten.length + (l.getD j (rz [.sl (.int .u8)])).length ≤ c := by
 rw [← cat_len l j h]
 exact Nat.le_trans (flat_take_le l _) hc
def xin (b : List Int) (f : Nat → Int) : Nat → Nat → Int
 | 0 => f
 | i + 1 => upd (xin b f i) (i / 8) (ixor .u64 (xin b f i (i / 8)) (ishl .u64 (IntKind.wrap .u64 (b.getD i 0)) ((8 * (i % 8) : Nat) : Int)))
def soakN (p : List Int) (r : Nat) : Nat → Nat → Int
 | 0 => fun _ => 0
 | k + 1 => perm (xin (p.drop (k * r)) (soakN p r k) r)
def padZ (r : Nat) (e : Int) (l : List (List Int)) : List Int := (l.flatten ++ [e]) ++ List.replicate ((r - (l.flatten ++ [e]).length % r) % r) (0 : Int)
def pad (r : Nat) (e : Int) (l : List (List Int)) : List Int := (padZ r e l).set ((padZ r e l).length - 1) (ior .u8 ((padZ r e l).getD ((padZ r e l).length - 1) 0) 128)
def spg (r : Nat) (e : Int) (l : List (List Int)) : Nat → Int := soakN (pad r e l) r ((pad r e l).length / r)
theorem padZ_len {r : Nat} (h : 0 < r) (e : Int) (l : List (List Int)) : ∃ N, 0 < N ∧ (padZ r e l).length = N * r := by
 unfold padZ
 generalize hb : l.flatten ++ [e] = b
 have hp : 0 < b.length := by rw [← hb]; simp
 rw [List.length_append, List.length_replicate]
 have h1 := Nat.div_add_mod b.length r
 have h2 := Nat.mod_lt b.length h
 by_cases h3 : b.length % r = 0
 ·rw [h3, Nat.sub_zero, Nat.mod_self]
  refine ⟨b.length / r, ?_, ?_⟩
  ·rcases Nat.eq_zero_or_pos (b.length / r) with h4 | h4
   ·rw [h4, h3] at h1; simp at h1; omega
   ·exact h4
  ·rw [h3] at h1; rw [Nat.mul_comm]; omega
 ·rw [Nat.mod_eq_of_lt (a := r - b.length % r) (by omega)]
  refine ⟨b.length / r + 1, Nat.succ_pos _, ?_⟩
  rw [Nat.succ_mul, Nat.mul_comm]
  omega
theorem pad_len {r : Nat} {e : Int} {l : List (List Int)} : (pad r e l).length = (padZ r e l).length := by simp [pad]
theorem padZ_le {r : Nat} (h : 0 < r) (e : Int) (l : List (List Int)) : (padZ r e l).length ≤ l.flatten.length + 1 + r := by
 unfold padZ
 rw [List.length_append, List.length_replicate, List.length_append]
 have := Nat.mod_lt (r - (l.flatten ++ [e]).length % r) h
 simp only [List.length_append, List.length_cons, List.length_nil] at this ⊢
 omega
theorem blk_at {p b : List Int} {r k N : Nat} (hr : 0 < r) (hN : p.length = N * r) (hb : b = p.drop (k * r)) (hk : k ≤ N) (h : 0 < b.length) : k < N ∧ r ≤ b.length := by
 rw [hb, List.length_drop, hN, ← Nat.sub_mul] at h ⊢
 rcases Nat.eq_zero_or_pos (N - k) with h1 | h1
 ·rw [h1] at h; simp at h
 ·exact ⟨by omega, Nat.le_mul_of_pos_left r h1⟩
theorem blk_end {p b : List Int} {r k N : Nat} (hr : 0 < r) (hN : p.length = N * r) (hb : b = p.drop (k * r)) (hk : k ≤ N) (h : ¬ 0 < b.length) : k = p.length / r := by
 rw [hb, List.length_drop, hN, ← Nat.sub_mul] at h
 rw [hN, Nat.mul_div_cancel _ hr]
 rcases Nat.eq_zero_or_pos (N - k) with h1 | h1
 ·omega
 ·exact absurd (Nat.mul_pos h1 hr) h
theorem blk_next {p b : List Int} {r k : Nat} (hb : b = p.drop (k * r)) : b.drop r = p.drop ((k + 1) * r) := by
 rw [hb, List.drop_drop, Nat.succ_mul]
theorem blk_soak {p b : List Int} {r k : Nat} {f g : Nat → Int} (hb : b = p.drop (k * r)) (hf : f = soakN p r k) (hg : g = xin b f r) : perm g = soakN p r (k + 1) := by
 rw [hg, hf, hb]; rfl
def rdA (r : Nat) (f : Nat → Int) (a : Nat) : Nat → (Nat → Int) × Nat × List Int
 | 0 => (f, a, [])
 | j + 1 => match rdA r f a j with
  | (g, b, o) => if b = r then (perm g, 1, o ++ [IntKind.wrap .u8 (ishr .u64 (perm g 0) 0)]) else (g, b + 1, o ++ [IntKind.wrap .u8 (ishr .u64 (g (b / 8)) ((8 * (b % 8) : Nat) : Int))])
theorem rd_next1 {r : Nat} {f0 : Nat → Int} {a0 : Nat} {f : Nat → Int} {a : Nat} {o : List Int} (hq : (f, a, o) = rdA r f0 a0 o.length) (ha : a = r) : (perm f, 1, o ++ [IntKind.wrap .u8 (ishr .u64 (perm f 0) 0)]) = rdA r f0 a0 (o ++ [IntKind.wrap .u8 (ishr .u64 (perm f 0) 0)]).length := by
 rw [List.length_append]
 show _ = (match rdA r f0 a0 o.length with
  | (g, b, o) => if b = r then (perm g, 1, o ++ [IntKind.wrap .u8 (ishr .u64 (perm g 0) 0)]) else (g, b + 1, o ++ [IntKind.wrap .u8 (ishr .u64 (g (b / 8)) ((8 * (b % 8) : Nat) : Int))]))
 rw [← hq]
 simp only [if_pos ha]
theorem rd_next2 {r : Nat} {f0 : Nat → Int} {a0 : Nat} {f : Nat → Int} {a : Nat} {o : List Int} (hq : (f, a, o) = rdA r f0 a0 o.length) (ha : ¬ a = r) : (f, a + 1, o ++ [IntKind.wrap .u8 (ishr .u64 (f (a / 8)) ((8 * (a % 8) : Nat) : Int))]) = rdA r f0 a0 (o ++ [IntKind.wrap .u8 (ishr .u64 (f (a / 8)) ((8 * (a % 8) : Nat) : Int))]).length := by
 rw [List.length_append]
 show _ = (match rdA r f0 a0 o.length with
  | (g, b, o) => if b = r then (perm g, 1, o ++ [IntKind.wrap .u8 (ishr .u64 (perm g 0) 0)]) else (g, b + 1, o ++ [IntKind.wrap .u8 (ishr .u64 (g (b / 8)) ((8 * (b % 8) : Nat) : Int))]))
 rw [← hq]
 simp only [if_neg ha]
theorem rd_end {r : Nat} {f0 : Nat → Int} {a0 n : Nat} {f : Nat → Int} {a : Nat} {o : List Int} (hq : (f, a, o) = rdA r f0 a0 o.length) (hn : o.length = n) : f = (rdA r f0 a0 n).1 ∧ a = (rdA r f0 a0 n).2.1 ∧ o = (rdA r f0 a0 n).2.2 := by
 rw [← hn, ← hq]; exact ⟨rfl, rfl, rfl⟩
theorem rd_len (r : Nat) (f0 : Nat → Int) (a0 : Nat) : ∀ n, (rdA r f0 a0 n).2.2.length = n
 | 0 => rfl
 | n + 1 => by
  have ih := rd_len r f0 a0 n
  show (match rdA r f0 a0 n with
   | (g, b, o) => if b = r then (perm g, 1, o ++ [IntKind.wrap .u8 (ishr .u64 (perm g 0) 0)]) else (g, b + 1, o ++ [IntKind.wrap .u8 (ishr .u64 (g (b / 8)) ((8 * (b % 8) : Nat) : Int))])).2.2.length = n + 1
  revert ih
  generalize rdA r f0 a0 n = q
  obtain ⟨g, b, o⟩ := q
  intro ih
  simp only at ih ⊢
  split <;> simp [ih]
theorem rd_0 (r : Nat) (f0 : Nat → Int) (a0 : Nat) : (f0, a0, []) = rdA r f0 a0 0 := rfl
theorem rdA_s (r : Nat) (f : Nat → Int) (a j : Nat) : rdA r f a (j + 1) = match rdA r f a j with
  | (g, b, o) => if b = r then (perm g, 1, o ++ [IntKind.wrap .u8 (ishr .u64 (perm g 0) 0)]) else (g, b + 1, o ++ [IntKind.wrap .u8 (ishr .u64 (g (b / 8)) ((8 * (b % 8) : Nat) : Int))]) := rfl
attribute [irreducible] rdA
end Go.Sx
namespace Go.Sx.Try
open Go.Mi Go.RowKit Go.Sx Go.Proofs
noncomputable section
def c_grow (n : Nat) : Con := ⟨[.v (.slice none 0 0), vi (n : Int)], [], .sk 0, [(0, .sl 5 [.int .u8] [])]⟩
theorem grow_ok (n : Nat) (h : n ≤ 140737488355328) : ConOk Try.prog 102 (c_grow n) := by
 refine conOk_of rfl (nb := 0) Try.func102 rfl rfl Try.ntmps102 rfl rfl rfl fun g0 w0 ac gs ws hg0 hS => ?_
 have hS := hS.sp
 refine s0 [0, 1, 4] [] 0 hS fun hS => ?_
 refine wp_seq (sA [(1, .ob false)] trivial (fun _ => [(decide ((n : Int) < 0)) = false]) [0, 1, 4, 6] [] 0 ⟨decide_eq_false omm, trivial⟩ hS fun hS => ?_)
 refine cond_f hS ?_
 refine wp_skip (then_n (wp_seq (sA [(6, .oi (n : Int))] trivial (fun _ => [isub .i64 (n : Int) 0 = (n : Int)]) [0, 1, 4] [] 0 ⟨by rw [isub64 omm omm]; omega, trivial⟩ hS fun hS => ?_)))
 refine s0 [0, 1, 4, 16] [] 0 hS fun hS => ?_
 refine if_d ((0 : Int) < (n : Int)) hS (fun h1 => ?_) (fun h1 => ?_)
 ·refine rA [] trivial (fun _ => [bndP none (some 0) none 0 0, (0 : Int) ≤ (n : Int), ([] : List (RT [.int .u8])).length + n ≤ 9223372036854775807, (([] : List (RT [.int .u8])).length + n) * 1 ≤ 140737488355328, (0 : Int) ≤ 0 ∧ (0 : Int) ≤ ([] ++ List.replicate n (0 : Int)).length]) [0, 4] [1] 2 ⟨⟨by simp only [nnI] <;> omega, by simp only [nnI] <;> omega, by simp only [nnI] <;> omega, by simp, by simp only [bl] <;> omega, by simp only [bl] <;> omega, by simp only [bl] <;> omega⟩, by omega, by simp <;> omega, by simp <;> omega, by simp, trivial⟩ hS fun hS => ?_
  refine then_n (s0 [4] [1] 2 hS fun hS => ?_)
  refine wp_ret ?_
  obtain ⟨gs, hS⟩ := hS.rn [(0, 1)] [(4, .sk 0)] [(0, .sl 5 [.int .u8] (([] ++ List.replicate n (0 : Int)).take 0))] 1 hg0
  exact fin_y rfl (.inr rfl) hS [.sk 0] [(0, some (.sl 5 [.int .u8] (([] ++ List.replicate n (0 : Int)).take 0)))] rfl ⟨rfl, trivial⟩
 ·refine wp_skip (then_n (s0 [4] [] 0 hS fun hS => ?_))
  refine wp_ret ?_
  obtain ⟨gs, hS⟩ := hS.nilk 4 5 [.int .u8]
  exact fin_y rfl (.inr rfl) hS [.sk 0] [(0, some (.sl 5 [.int .u8] []))] rfl ⟨rfl, trivial⟩

def c_concat (l : List (List Int)) : Con := ⟨[.ls false [.sl (.int .u8)] l], [], .sk 0, [(0, .sl 5 [.int .u8] l.flatten)]⟩
theorem concat_ok (l : List (List Int)) (h : l.flatten.length ≤ 140737488355328) : ConOk Try.prog 75 (c_concat l) := by
 refine conOk_of rfl (nb := 0) Try.func75 rfl rfl Try.ntmps75 rfl rfl rfl fun g0 w0 ac gs ws hg0 hS => ?_
 have hlen0 : l.length ≤ 9223372036854775807 := hS.len 0 rfl
 have hS := hS.sp
 refine s0 [0, 2] [] 0 hS fun hS => ?_
 refine s0 [0, 2, 3] [] 0 hS fun hS => ?_
 refine wp_seq (s0 [0, 2, 3, 9, 10, 11] [] 0 hS fun hS => ?_)
 refine wp_block (loop_y (ι := Nat × Nat) hg0 hS (fun z_ => match z_ with | (i, c) => l.length - i) (fun z_ => match z_ with | (i, c) => [(0, .ls false [.sl (.int .u8)] l), (2, .v (.slice none 0 0)), (3, vi ((c : Nat) : Int)), (9, .ls false [.sl (.int .u8)] l), (10, vi ((l.length : Nat) : Int)), (11, vi ((i : Nat) : Int))]) (fun z_ => match z_ with | (i, c) => []) (fun z_ => match z_ with | (i, c) => (i ≤ l.length) ∧ (c = (l.take i).flatten.length) ∧ True) 0 (0, 0) [] ⟨omm, rfl, trivial⟩ ?_)
 rintro ⟨i, c⟩ ac gs ws ⟨hi, hc, _⟩ hS
 refine s0 [0, 2, 3, 9, 10, 11, 12] [] 0 hS fun hS => ?_
 refine wp_seq ?_
 refine if_d ((i : Int) < ((l.length : Nat) : Int)) hS (fun h1 => ?_) (fun h1 => ?_)
 ·refine wp_skip (then_n (wp_seq (wp_block (sA [] trivial (fun _ => [(0 : Int) ≤ (i : Int) ∧ (i : Int) < ((l.length : Nat) : Int)]) [0, 2, 3, 5, 9, 10, 11] [] 0 ⟨by omega, trivial⟩ hS fun hS => ?_))))
  refine wp_seq ?_
  have hb := cat_le (l := l) (j := i) omm h
  rw [← hc] at hb
  refine rA [(3, .oi ((c + ((l.getD i (rz [.sl (.int .u8)])).length) : Nat) : Int))] trivial (fun _ => [iadd .i64 (c : Int) (((l.getD i (rz [.sl (.int .u8)])).length : Nat) : Int) = ((c + ((l.getD i (rz [.sl (.int .u8)])).length) : Nat) : Int)]) [0, 2, 3, 9, 10, 11] [] 0 ⟨by rw [iadd64 omm omm]; omega, trivial⟩ hS fun hS => ?_
  refine then_n (sA [(1, .ob false)] trivial (fun _ => [(decide (((c + ((l.getD i (rz [.sl (.int .u8)])).length) : Nat) : Int) < 0)) = false]) [0, 2, 3, 9, 10, 11, 20] [] 0 ⟨decide_eq_false omm, trivial⟩ hS fun hS => ?_)
  refine cond_f hS ?_
  refine wp_skip (block_n (then_n (rA [(0, .oi ((i + 1 : Nat) : Int))] trivial (fun _ => [iadd .i64 (i : Int) 1 = ((i + 1 : Nat) : Int)]) [0, 2, 3, 9, 10, 11] [] 0 ⟨by rw [iadd64 omm omm]; omega, trivial⟩ hS fun hS => ?_)))
  refine then_n ?_
  exact next_y hg0 hS (s := (i, c)) (i + 1, c + ((l.getD i (rz [.sl (.int .u8)])).length)) [] (show l.length - (i + 1) < l.length - i from by omega) ⟨omm, (by rw [cat_len l i omm, ← hc]), trivial⟩
 ·have hScur := hS
  obtain rfl : l.length = i := by omega
  obtain rfl : l.flatten.length = c := Eq.symm (by rw [hc, List.take_length])
  have hS := hScur
  clear hScur
  refine wp_exit (then_exit (then_exit (block_exit (then_n (sA [(1, .call ⟨102, (c_grow l.flatten.length), [], [(0, 0)]⟩)] ⟨grow_ok _ omm, trivial⟩ (fun C => [ndC C 1]) [0, 2, 6] [0] 1 ⟨rfl, trivial⟩ hS fun hS => ?_)))))
  refine wp_seq (s0 [2, 6, 25, 26, 27] [0] 1 hS fun hS => ?_)
  refine wp_block (loop_y (ι := Nat × (List Int)) hg0 hS (fun z_ => match z_ with | (j, o) => l.length - j) (fun z_ => match z_ with | (j, o) => [(2, .v (.slice none 0 0)), (6, .sk 0), (25, .ls false [.sl (.int .u8)] l), (26, vi ((l.length : Nat) : Int)), (27, vi ((j : Nat) : Int))]) (fun z_ => match z_ with | (j, o) => [(0, .sl 5 [.int .u8] o)]) (fun z_ => match z_ with | (j, o) => (j ≤ l.length) ∧ (o = (l.take j).flatten) ∧ True) 1 (0, []) [(0, 0)] ⟨omm, rfl, trivial⟩ ?_)
  rintro ⟨j, o⟩ ac gs ws ⟨hj, ho, _⟩ hS
  refine s0 [2, 6, 25, 26, 27, 28] [0] 1 hS fun hS => ?_
  refine wp_seq ?_
  refine if_d ((j : Int) < ((l.length : Nat) : Int)) hS (fun h2 => ?_) (fun h2 => ?_)
  ·refine wp_skip (then_n (wp_seq (wp_block (sA [] trivial (fun _ => [(0 : Int) ≤ (j : Int) ∧ (j : Int) < ((l.length : Nat) : Int)]) [2, 6, 8, 25, 26, 27] [0] 1 ⟨by omega, trivial⟩ hS fun hS => ?_))))
   have hb := cat_le (l := l) (j := j) omm h
   rw [← ho] at hb
   refine rA [] trivial (fun _ => [o.length + (l.getD j (rz [.sl (.int .u8)])).length ≤ 9223372036854775807, (o.length + (l.getD j (rz [.sl (.int .u8)])).length) * 1 ≤ 140737488355328]) [2, 6, 25, 26, 27] [1] 2 ⟨by omega, by omega, trivial⟩ hS fun hS => ?_
   refine block_n (then_n (rA [(0, .oi ((j + 1 : Nat) : Int))] trivial (fun _ => [iadd .i64 (j : Int) 1 = ((j + 1 : Nat) : Int)]) [2, 6, 25, 26, 27] [1] 2 ⟨by rw [iadd64 omm omm]; omega, trivial⟩ hS fun hS => ?_))
   refine then_n ?_
   exact next_y hg0 hS (s := (j, o)) (j + 1, o ++ (l.getD j (rz [.sl (.int .u8)]))) [(0, 1)] (show l.length - (j + 1) < l.length - j from by omega) ⟨omm, (by rw [cat_step l j omm, ← ho]), trivial⟩
  ·have hScur := hS
   obtain rfl : l.length = j := by omega
   obtain rfl : l.flatten = o := Eq.symm (by rw [ho, List.take_length])
   have hS := hScur
   clear hScur
   refine wp_exit (then_exit (then_exit (block_exit (then_n (s0 [2] [0] 1 hS fun hS => ?_)))))
   refine wp_ret ?_
   exact fin_y rfl (.inr rfl) hS [.sk 0] [(0, some (.sl 5 [.int .u8] l.flatten))] rfl ⟨rfl, trivial⟩

def c_cat (l : List (List Int)) : Con := ⟨[.ls false [.sl (.int .u8)] l], [], .sk 0, [(0, .sl 5 [.int .u8] l.flatten)]⟩
theorem cat_ok (l : List (List Int)) (h : l.flatten.length ≤ 140737488355328) : ConOk Try.prog 45 (c_cat l) := by
 refine conOk_of rfl (nb := 0) Try.func45 rfl rfl Try.ntmps45 rfl rfl rfl fun g0 w0 ac gs ws hg0 hS => ?_
 have hlen0 : l.length ≤ 9223372036854775807 := hS.len 0 rfl
 have hS := hS.sp
 refine s0 [0, 2] [] 0 hS fun hS => ?_
 refine sA [(1, .call ⟨75, (c_concat l), [], [(0, 0)]⟩)] ⟨concat_ok _ (by first | omega | (simp only [List.flatten_cons, List.flatten_nil, List.length_append, List.length_cons, List.length_nil, List.length_take, List.length_drop, List.length_replicate] <;> omega) | (simp <;> omega)), trivial⟩ (fun C => [ndC C 1]) [2] [0] 1 ⟨rfl, trivial⟩ hS fun hS => ?_
 refine wp_ret ?_
 exact fin_y rfl (.inr rfl) hS [.sk 0] [(0, some (.sl 5 [.int .u8] l.flatten))] rfl ⟨rfl, trivial⟩

end
end Go.Sx.Try
namespace Go.Sx.Try
open Go.Mi Go.RowKit Go.Sx Go.Proofs
noncomputable section
def c_soaked (r : Nat) (e : Int) (l : List (List Int)) : Con := ⟨[vi (r : Int), .v (.int .u8 e), .ls false [.sl (.int .u8)] l], [], .cp 0 0, [(0, .ob 141 (chain [.ar .u64 25 (spg r e l), vi (r : Int), vi 0]))]⟩
theorem soaked_ok (r : Nat) (e : Int) (l : List (List Int)) (hr : 0 < r) (hr2 : r ≤ 200) (h : l.flatten.length ≤ 140000000000000) : ConOk Try.prog 67 (c_soaked r e l) := by
 refine conOk_of rfl (nb := 0) Try.func67 rfl rfl Try.ntmps67 rfl rfl rfl fun g0 w0 ac gs ws hg0 hS => ?_
 have hlen2 : l.length ≤ 9223372036854775807 := hS.len 2 rfl
 have hS := hS.sp
 refine s0 [0, 1, 2, 6] [] 0 hS fun hS => ?_
 refine sA [(1, .call ⟨45, (c_cat l), [], [(0, 0)]⟩)] ⟨cat_ok _ (by first | omega | (simp only [List.flatten_cons, List.flatten_nil, List.length_append, List.length_cons, List.length_nil, List.length_take, List.length_drop, List.length_replicate] <;> omega) | (simp <;> omega)), trivial⟩ (fun C => [ndC C 1, l.flatten.length + [e].length ≤ 9223372036854775807, (l.flatten.length + [e].length) * 1 ≤ 140737488355328]) [0, 6, 7] [1] 2 ⟨rfl, by first | omega | (simp only [List.length_append, List.length_cons, List.length_nil]; omega), by first | omega | (simp only [List.length_append, List.length_cons, List.length_nil]; omega), trivial⟩ hS fun hS => ?_
 refine wp_seq ?_
 have hm := Nat.mod_lt (l.flatten ++ [e]).length hr
 have hm2 := Nat.mod_lt (r - (l.flatten ++ [e]).length % r) hr
 have hl1 : (l.flatten ++ [e]).length = l.flatten.length + 1 := by simp
 refine rA [(5, .oi ((((l.flatten ++ [e]).length) % r : Nat) : Int)), (6, .oi ((r - (((l.flatten ++ [e]).length) % r) : Nat) : Int)), (8, .oi (((r - (((l.flatten ++ [e]).length) % r)) % r : Nat) : Int))] trivial (fun _ => [irem (((l.flatten ++ [e]).length : Nat) : Int) (r : Int) = ((((l.flatten ++ [e]).length) % r : Nat) : Int), ((r : Int) : Int) ≠ 0, isub .i64 (r : Int) ((((l.flatten ++ [e]).length) % r : Nat) : Int) = ((r - (((l.flatten ++ [e]).length) % r) : Nat) : Int), irem ((r - (((l.flatten ++ [e]).length) % r) : Nat) : Int) (r : Int) = (((r - (((l.flatten ++ [e]).length) % r)) % r : Nat) : Int), ((r : Int) : Int) ≠ 0, (0 : Int) ≤ (((r - (((l.flatten ++ [e]).length) % r)) % r : Nat) : Int), (l.flatten ++ [e]).length + ((r - (((l.flatten ++ [e]).length) % r)) % r) ≤ 9223372036854775807, ((l.flatten ++ [e]).length + ((r - (((l.flatten ++ [e]).length) % r)) % r)) * 1 ≤ 140737488355328]) [0, 6, 7] [2] 3 ⟨by rw [irem64 omm]; exact (Int.natCast_emod _ _).symm, by omega, by rw [isub64 omm omm]; omega, by rw [irem64 omm]; exact (Int.natCast_emod _ _).symm, by omega, by omega, by first | omega | (simp only [List.length_append, List.length_cons, List.length_nil]; omega), by first | omega | (simp only [List.length_append, List.length_cons, List.length_nil]; omega), trivial⟩ hS fun hS => ?_
 obtain ⟨p, hp⟩ : ∃ p, p = padZ r e l := ⟨_, rfl⟩
 have hS := (hS.rv [(0, vi (r : Int)), (6, .v (.pointer none)), (7, .sk 2)] [(2, some (.sl 5 [.int .u8] p))] (by subst hp; kernel_rfl) (by subst hp; kernel_rfl)).sp
 obtain ⟨N, hN0, hN⟩ := padZ_len hr e l
 have hp1 : 1 ≤ (padZ r e l).length := by rw [hN]; exact Nat.mul_pos hN0 hr
 have hpl := padZ_le hr e l
 rw [← hp] at hN hp1 hpl
 refine then_n (wp_seq (rA [(3, .oi ((p.length - 1 : Nat) : Int))] trivial (fun _ => [isub .i64 ((p.length : Nat) : Int) 1 = ((p.length - 1 : Nat) : Int), (0 : Int) ≤ ((p.length - 1 : Nat) : Int) ∧ ((p.length - 1 : Nat) : Int) < ((p.length : Nat) : Int), (0 : Int) ≤ ((p.length - 1 : Nat) : Int) ∧ ((p.length - 1 : Nat) : Int) < ((p.length : Nat) : Int)]) [0, 6, 7] [2] 3 ⟨by rw [isub64 omm omm]; omega, by omega, by omega, trivial⟩ hS fun hS => ?_))
 obtain ⟨q, hq⟩ : ∃ q, q = pad r e l := ⟨_, rfl⟩
 have hS := (hS.rv [(0, vi (r : Int)), (6, .v (.pointer none)), (7, .sk 2)] [(2, some (.sl 5 [.int .u8] q))] (by subst hq; subst hp; kernel_rfl) (by subst hq; subst hp; kernel_rfl)).sp
 have hNq : q.length = N * r := by rw [hq, pad_len, ← hp, hN]
 clear hN hp1 hp
 have hql : q.length ≤ 140737488355328 := by rw [hq, pad_len]; exact Nat.le_trans (padZ_le hr e l) omm
 refine then_n (s0 [0, 6, 7, 8] [2, 3] 4 hS fun hS => ?_)
 refine wp_seq (wp_block ?_)
 obtain ⟨gs, hS⟩ := hS.fz 2
 refine loop_y (ι := Nat × (List Int) × (Nat → Int)) hg0 hS (fun z_ => match z_ with | (k, b, f) => N - k) (fun z_ => match z_ with | (k, b, f) => [(0, vi (r : Int)), (6, .v (.pointer none)), (7, lb b), (8, .cp 3 0)]) (fun z_ => match z_ with | (k, b, f) => [(3, .ob 141 (chain [.ar .u64 25 f, vi (r : Int), vi 0]))]) (fun z_ => match z_ with | (k, b, f) => (k ≤ N) ∧ (b = q.drop (k * r)) ∧ (f = soakN q r k) ∧ True) 4 (0, q, fun _ => 0) [(3, 3)] ⟨omm, (by rw [Nat.zero_mul]; rfl), rfl, trivial⟩ ?_
 rintro ⟨k, b, f⟩ ac gs ws ⟨hk, hb, hf, _⟩ hS
 refine wp_seq (s0 [0, 6, 7, 8, 38] [3] 4 hS fun hS => ?_)
 refine if_d ((0 : Int) < ((b.length : Nat) : Int)) hS (fun h1 => ?_) (fun h1 => ?_)
 ·refine wp_skip (then_n (wp_seq (wp_block (wp_seq (wp_seq ?_)))))
  obtain ⟨hkN, hrb⟩ := blk_at hr hNq hb hk omm
  refine r0 [0, 6, 7, 8, 42, 43] [3] 4 hS fun hS => ?_
  refine then_n (wp_block (loop_y (ι := Nat × (Nat → Int)) hg0 hS (fun z_ => match z_ with | (i, g) => r - i) (fun z_ => match z_ with | (i, g) => [(0, vi (r : Int)), (6, .v (.pointer none)), (7, lb b), (8, .cp 3 0), (42, vi (r : Int)), (43, vi ((i : Nat) : Int))]) (fun z_ => match z_ with | (i, g) => [(3, .ob 141 (chain [.ar .u64 25 g, vi (r : Int), vi 0]))]) (fun z_ => match z_ with | (i, g) => (i ≤ r) ∧ (g = xin b f i) ∧ True) 4 (0, f) [(3, 3)] ⟨omm, rfl, trivial⟩ ?_))
  rintro ⟨i, g⟩ ac gs ws ⟨hi, hg, _⟩ hS
  refine s0 [0, 6, 7, 8, 42, 43, 44] [3] 4 hS fun hS => ?_
  refine wp_seq ?_
  refine if_d ((i : Int) < (r : Int)) hS (fun h2 => ?_) (fun h2 => ?_)
  ·refine wp_skip (then_n (wp_seq (wp_block (s0 [0, 6, 7, 8, 9, 42, 43] [3] 4 hS fun hS => ?_))))
   refine rA [(2, .oi ((i / 8 : Nat) : Int)), (13, .oi ((i % 8 : Nat) : Int)), (14, .oi ((8 * (i % 8) : Nat) : Int))] trivial (fun _ => [iquo .i64 (i : Int) 8 = ((i / 8 : Nat) : Int), (8 : Int) ≠ 0, (0 : Int) ≤ ((i / 8 : Nat) : Int) ∧ (((i / 8 : Nat) : Int) : Int) < 25, (0 : Int) ≤ (i : Int) ∧ (i : Int) < ((b.length : Nat) : Int), irem (i : Int) 8 = ((i % 8 : Nat) : Int), (8 : Int) ≠ 0, imul .i64 8 ((i % 8 : Nat) : Int) = ((8 * (i % 8) : Nat) : Int), (0 : Int) ≤ ((8 * (i % 8) : Nat) : Int), (0 : Int) ≤ ((i / 8 : Nat) : Int) ∧ (((i / 8 : Nat) : Int) : Int) < 25]) [0, 6, 7, 8, 42, 43] [3] 4 ⟨by rw [iquo64 omm omm omm]; omega, by omega, by omega, by omega, by rw [irem64 omm]; omega, by omega, by rw [imul64 omm omm]; omega, by omega, by omega, trivial⟩ hS fun hS => ?_
   refine block_n (then_n (rA [(0, .oi ((i + 1 : Nat) : Int))] trivial (fun _ => [iadd .i64 (i : Int) 1 = ((i + 1 : Nat) : Int)]) [0, 6, 7, 8, 42, 43] [3] 4 ⟨by rw [iadd64 omm omm]; omega, trivial⟩ hS fun hS => ?_))
   refine then_n ?_
   exact next_y hg0 hS (s := (i, g)) (i + 1, upd g (i / 8) (ixor .u64 (g (i / 8)) (ishl .u64 (IntKind.wrap .u64 (b.getD i 0)) ((8 * (i % 8) : Nat) : Int)))) [(3, 3)] (show r - (i + 1) < r - i from by omega) ⟨omm, (by rw [hg]; rfl), trivial⟩
  ·have hScur := hS
   obtain rfl : r = i := by omega
   have hS := hScur
   clear hScur
   refine wp_exit (then_exit (then_exit (block_exit (then_n (rA [(4, .ov (.ar .u64 25 g)), (5, .call ⟨97, (c_perm g), [], []⟩)] ⟨perm_ok _, trivial⟩ (fun C => [(.ar .u64 25 g : D) = (.ar .u64 25 g), ndC C 5]) [0, 6, 7, 8] [3] 4 ⟨rfl, rfl, trivial⟩ hS fun hS => ?_)))))
   refine block_n (then_n (rA [] trivial (fun _ => [bndP (some (r : Int)) none none b.length b.length]) [0, 6, 7, 8] [3] 4 ⟨⟨by simp only [nnI] <;> omega, by simp only [nnI] <;> omega, by simp only [nnI] <;> omega, by simp, by simp only [bl] <;> omega, by simp only [bl] <;> omega, by simp only [bl] <;> omega⟩, trivial⟩ hS fun hS => ?_))
   refine then_n ?_
   exact next_y hg0 hS (s := (k, b, f)) (k + 1, b.drop r, perm g) [(3, 3)] (show N - (k + 1) < N - k from by omega) ⟨omm, (blk_next hb), (blk_soak hb hf hg), trivial⟩
 ·have hScur := hS
  obtain rfl : q.length / r = k := Eq.symm (blk_end hr hNq hb hk omm)
  obtain rfl : spg r e l = f := Eq.symm (by rw [hf, hq]; rfl)
  have hS := hScur
  clear hScur
  refine wp_exit (then_exit (then_exit (block_exit (then_n (s0 [6] [3] 4 hS fun hS => ?_)))))
  refine wp_ret ?_
  obtain ⟨gs, hS⟩ := hS.rn [(0, 3)] [(6, .cp 0 0)] [(0, .ob 141 (chain [.ar .u64 25 (spg r e l), vi (r : Int), vi 0]))] 1 hg0
  exact fin_y rfl (.inr rfl) hS [.cp 0 0] [(0, some (.ob 141 (chain [.ar .u64 25 (spg r e l), vi (r : Int), vi 0])))] rfl ⟨rfl, trivial⟩

def c_read (r : Nat) (f : Nat → Int) (a n : Nat) : Con := ⟨[.cp 0 0, vi (n : Int)], [(0, .ob 141 (chain [.ar .u64 25 f, vi (r : Int), vi (a : Int)]))], lb ((rdA r f a n).2.2), [(0, .ob 141 (chain [.ar .u64 25 ((rdA r f a n).1), vi (r : Int), vi (((rdA r f a n).2.1 : Nat) : Int)]))]⟩
theorem read_ok (r : Nat) (f : Nat → Int) (a n : Nat) (hr : 0 < r) (hr2 : r ≤ 200) (har : a ≤ r) (h : n ≤ 140737488355328) : ConOk Try.prog 68 (c_read r f a n) := by
 refine conOk_of rfl (nb := 1) Try.func68 rfl rfl Try.ntmps68 rfl rfl rfl fun g0 w0 ac gs ws hg0 hS => ?_
 have hS := hS.sp
 refine s0 [0, 1, 4] [0] 1 hS fun hS => ?_
 refine wp_seq (wp_block ?_)
 obtain ⟨gs, hS⟩ := hS.nilk 4 5 [.int .u8]
 refine loop_y (ι := (Nat → Int) × Nat × (List Int)) hg0 hS (fun z_ => match z_ with | (g, b, o) => n - o.length) (fun z_ => match z_ with | (g, b, o) => [(0, .cp 0 0), (1, vi (n : Int)), (4, .sk 1)]) (fun z_ => match z_ with | (g, b, o) => [(0, .ob 141 (chain [.ar .u64 25 g, vi (r : Int), vi ((b : Nat) : Int)])), (1, .sl 5 [.int .u8] o)]) (fun z_ => match z_ with | (g, b, o) => (b ≤ r) ∧ (o.length ≤ n) ∧ ((g, b, o) = rdA r f a o.length) ∧ True) 2 (f, a, []) [(0, 0), (1, 1)] ⟨omm, (by simp), (rd_0 r f a), trivial⟩ ?_
 rintro ⟨g, b, o⟩ ac gs ws ⟨hb, ho, hq, _⟩ hS
 refine wp_seq (s0 [0, 1, 4, 8] [0, 1] 2 hS fun hS => ?_)
 refine if_d (((o.length : Nat) : Int) < (n : Int)) hS (fun h1 => ?_) (fun h1 => ?_)
 ·refine wp_skip (then_n (wp_block (wp_seq (s0 [0, 1, 4, 17] [0, 1] 2 hS fun hS => ?_))))
  refine if_d ((b : Int) = (r : Int)) hS (fun h2 => ?_) (fun h2 => ?_)
  ·refine rA [(5, .ov (.ar .u64 25 g)), (6, .call ⟨97, (c_perm g), [], []⟩)] ⟨perm_ok _, trivial⟩ (fun C => [(.ar .u64 25 g : D) = (.ar .u64 25 g), ndC C 6]) [0, 1, 4] [0, 1] 2 ⟨rfl, rfl, trivial⟩ hS fun hS => ?_
   refine then_n (sA [] trivial (fun _ => [(8 : Int) ≠ 0, (0 : Int) ≤ 0 ∧ (0 : Int) < 25, (8 : Int) ≠ 0, (0 : Int) ≤ 0, o.length + [(IntKind.wrap .u8 (ishr .u64 ((perm g) 0) 0))].length ≤ 9223372036854775807, (o.length + [(IntKind.wrap .u8 (ishr .u64 ((perm g) 0) 0))].length) * 1 ≤ 140737488355328]) [0, 1, 4] [0, 2] 3 ⟨by omega, by omega, by omega, by omega, by simp <;> omega, by simp <;> omega, trivial⟩ hS fun hS => ?_)
   refine r0 [0, 1, 4] [0, 2] 3 hS fun hS => ?_
   refine block_n (then_n ?_)
   exact next_y hg0 hS (s := (g, b, o)) (perm g, 1, o ++ [(IntKind.wrap .u8 (ishr .u64 ((perm g) 0) 0))]) [(0, 0), (1, 2)] (by simp <;> omega) ⟨omm, (by simp <;> omega), (by first | exact rd_next1 hq omm | exact rd_next2 hq omm), trivial⟩
  ·refine wp_skip (then_n (sA [(6, .oi ((b / 8 : Nat) : Int)), (15, .oi ((b % 8 : Nat) : Int)), (16, .oi ((8 * (b % 8) : Nat) : Int))] trivial (fun _ => [iquo .i64 (b : Int) 8 = ((b / 8 : Nat) : Int), (8 : Int) ≠ 0, (0 : Int) ≤ ((b / 8 : Nat) : Int) ∧ (((b / 8 : Nat) : Int) : Int) < 25, irem (b : Int) 8 = ((b % 8 : Nat) : Int), (8 : Int) ≠ 0, imul .i64 8 ((b % 8 : Nat) : Int) = ((8 * (b % 8) : Nat) : Int), (0 : Int) ≤ ((8 * (b % 8) : Nat) : Int), o.length + [(IntKind.wrap .u8 (ishr .u64 (g (b / 8)) ((8 * (b % 8) : Nat) : Int)))].length ≤ 9223372036854775807, (o.length + [(IntKind.wrap .u8 (ishr .u64 (g (b / 8)) ((8 * (b % 8) : Nat) : Int)))].length) * 1 ≤ 140737488355328]) [0, 1, 4] [0, 2] 3 ⟨by rw [iquo64 omm omm omm]; omega, by omega, by omega, by rw [irem64 omm]; omega, by omega, by rw [imul64 omm omm]; omega, by omega, by simp <;> omega, by simp <;> omega, trivial⟩ hS fun hS => ?_))
   refine rA [(4, .oi ((b + 1 : Nat) : Int))] trivial (fun _ => [iadd .i64 (b : Int) 1 = ((b + 1 : Nat) : Int)]) [0, 1, 4] [0, 2] 3 ⟨by rw [iadd64 omm omm]; omega, trivial⟩ hS fun hS => ?_
   refine block_n (then_n ?_)
   exact next_y hg0 hS (s := (g, b, o)) (g, b + 1, o ++ [(IntKind.wrap .u8 (ishr .u64 (g (b / 8)) ((8 * (b % 8) : Nat) : Int)))]) [(0, 0), (1, 2)] (by simp <;> omega) ⟨omm, (by simp <;> omega), (by first | exact rd_next1 hq omm | exact rd_next2 hq omm), trivial⟩
 ·have hScur := hS
  have hn : o.length = n := by omega
  obtain ⟨e1, e2, e3⟩ := rd_end hq hn
  clear hq ho hn
  obtain rfl : (rdA r f a n).1 = g := Eq.symm e1
  obtain rfl : (rdA r f a n).2.1 = b := Eq.symm e2
  obtain rfl : (rdA r f a n).2.2 = o := Eq.symm e3
  have hS := hScur
  clear hScur
  refine wp_exit (then_exit (then_exit (block_exit (then_n (s0 [4] [0, 1] 2 hS fun hS => ?_)))))
  refine wp_ret ?_
  obtain ⟨gs, hS⟩ := hS.fz 1
  exact fin_y rfl (.inr rfl) hS [lb ((rdA r f a n).2.2)] [(0, some (.ob 141 (chain [.ar .u64 25 ((rdA r f a n).1), vi (r : Int), vi (((rdA r f a n).2.1 : Nat) : Int)])))] rfl ⟨rfl, trivial⟩

end
end Go.Sx.Try
namespace Go.Sx.Try
open Go.Mi Go.RowKit Go.Sx Go.Proofs
noncomputable section
def mod_v (x : Int) : Int := (IntKind.wrap .u16 (irem x 3329))
def mod_m (x : Int) : Int := shut (mod_v x)
theorem mod_e (x : Int) : mod_m x = mod_v x := shut_eq _
def c_mod (x : Int) : Con := ⟨[.v (.int .u32 x)], [], .v (.int .u16 (mod_m x)), []⟩
theorem mod_ok (x : Int) : ConOk Try.prog 71 (c_mod x) := by
 refine conOk_of rfl (nb := 0) Try.func71 rfl rfl Try.ntmps71 rfl rfl rfl fun g0 w0 ac gs ws hg0 hS => ?_
 have hS := hS.sp
 refine s0 [0, 2] [] 0 hS fun hS => ?_
 refine sA [] trivial (fun _ => [(3329 : Int) ≠ 0]) [2] [] 0 ⟨by omega, trivial⟩ hS fun hS => ?_
 refine wp_ret ?_
 have hM : mod_m x = (IntKind.wrap .u16 (irem x 3329)) := mod_e x
 exact fin_y rfl (.inr rfl) hS [.v (.int .u16 (IntKind.wrap .u16 (irem x 3329)))] [] (by show weak _ (.v (.int .u16 (mod_m x))) = (.v (.int .u16 (mod_m x))); rw [hM]; first | (simp only []; rfl) | (simp only []; done) | rfl) trivial

def add_l1_s (f g : Nat → Int) (x6 : Nat) : (Nat → Int) → (Nat → Int) := fun o2_0 => upd o2_0 x6 (mod_m (iadd .u32 (IntKind.wrap .u32 (o2_0 x6)) (IntKind.wrap .u32 (g x6))))
def add_l1 (f g : Nat → Int) : Nat → (Nat → Int)
 | 0 => f
 | x6 + 1 => add_l1_s f g x6 (add_l1 f g x6)
def add_v (f g : Nat → Int) : (Nat → Int) := add_l1 f g 256
def add_m (f g : Nat → Int) : (Nat → Int) := shut (add_v f g)
theorem add_e (f g : Nat → Int) : add_m f g = add_v f g := shut_eq _
def c_add (f g : Nat → Int) : Con := ⟨[.ar .u16 256 f, .ar .u16 256 g], [], .ar .u16 256 (add_m f g), []⟩
theorem add_ok (f g : Nat → Int) : ConOk Try.prog 42 (c_add f g) := by
 refine conOk_of rfl (nb := 0) Try.func42 rfl rfl Try.ntmps42 rfl rfl rfl fun g0 w0 ac gs ws hg0 hS => ?_
 have hS := hS.sp
 refine s0 [2, 3, 4] [0, 1, 2] 3 hS fun hS => ?_
 refine wp_seq (s0 [2, 3, 4, 6] [0, 1, 2] 3 hS fun hS => ?_)
 refine wp_block (loop_y (ι := Nat × (Nat → Int)) hg0 hS (fun z_ => match z_ with | (x6, o2_0) => 256 - x6) (fun z_ => match z_ with | (x6, o2_0) => [(2, .cp 0 0), (3, .cp 1 0), (4, .cp 2 0), (6, vi ((x6 : Nat) : Int))]) (fun z_ => match z_ with | (x6, o2_0) => [(0, .ob 60 (chain [.ar .u16 256 o2_0])), (1, .ob 60 (chain [.ar .u16 256 g])), (2, .ob 60 (chain [.ar .u16 256 (fun _ => 0)]))]) (fun z_ => match z_ with | (x6, o2_0) => (x6 ≤ 256) ∧ (o2_0 = add_l1 f g x6) ∧ True) 3 (0, f) [(0, 0), (1, 1), (2, 2)] ⟨omm, rfl, trivial⟩ ?_)
 rintro ⟨x6, o2_0⟩ ac gs ws ⟨hx6, hq1, _⟩ hS
 refine s0 [2, 3, 4, 6, 7] [0, 1, 2] 3 hS fun hS => ?_
 refine wp_seq ?_
 refine if_d ((x6 : Int) < 256) hS (fun h1 => ?_) (fun h1 => ?_)
 ·refine wp_skip (then_n (wp_seq (wp_block (s0 [2, 3, 4, 5, 6] [0, 1, 2] 3 hS fun hS => ?_))))
  refine rA [(10, .call ⟨71, (c_mod (iadd .u32 (IntKind.wrap .u32 (o2_0 x6)) (IntKind.wrap .u32 (g x6)))), [], []⟩)] ⟨mod_ok _, trivial⟩ (fun C => [(0 : Int) ≤ (x6 : Int) ∧ ((x6 : Int) : Int) < 256, (0 : Int) ≤ (x6 : Int) ∧ ((x6 : Int) : Int) < 256, ndC C 10, (0 : Int) ≤ (x6 : Int) ∧ ((x6 : Int) : Int) < 256]) [2, 3, 4, 6] [0, 1, 2] 3 ⟨by omega, by omega, rfl, by omega, trivial⟩ hS fun hS => ?_
  refine block_n (then_n (rA [(0, .oi ((x6 + 1 : Nat) : Int))] trivial (fun _ => [iadd .i64 (x6 : Int) 1 = ((x6 + 1 : Nat) : Int)]) [2, 3, 4, 6] [0, 1, 2] 3 ⟨by rw [iadd64 omm omm]; omega, trivial⟩ hS fun hS => ?_))
  refine then_n ?_
  exact next_y hg0 hS (s := (x6, o2_0)) (x6 + 1, upd o2_0 x6 (mod_m (iadd .u32 (IntKind.wrap .u32 (o2_0 x6)) (IntKind.wrap .u32 (g x6))))) [(0, 0), (1, 1), (2, 2)] (show 256 - (x6 + 1) < 256 - x6 from by omega) ⟨omm, (it_next (F := add_l1 f g) (st := add_l1_s f g) (fun _ => rfl) hq1 rfl), trivial⟩
 ·have hScur := hS
  obtain rfl : 256 = x6 := by omega
  obtain rfl : add_l1 f g 256 = o2_0 := Eq.symm (congrArg (fun z => z) hq1)
  have hS := hScur
  clear hScur
  refine wp_exit (then_exit (then_exit (block_exit (then_n (s0 [4] [2] 3 hS fun hS => ?_)))))
  refine wp_ret ?_
  have hM : add_m f g = add_l1 f g 256 := add_e f g
  exact fin_y rfl (.inr rfl) hS [.ar .u16 256 (add_l1 f g 256)] [] (by show weak _ (.ar .u16 256 (add_m f g)) = (.ar .u16 256 (add_m f g)); rw [hM]; first | (simp only []; rfl) | (simp only []; done) | rfl) trivial

def sub_l1_s (f g : Nat → Int) (x6 : Nat) : (Nat → Int) → (Nat → Int) := fun o2_0 => upd o2_0 x6 (mod_m (isub .u32 (iadd .u32 (IntKind.wrap .u32 (o2_0 x6)) 3329) (IntKind.wrap .u32 (irem (g x6) 3329))))
def sub_l1 (f g : Nat → Int) : Nat → (Nat → Int)
 | 0 => f
 | x6 + 1 => sub_l1_s f g x6 (sub_l1 f g x6)
def sub_v (f g : Nat → Int) : (Nat → Int) := sub_l1 f g 256
def sub_m (f g : Nat → Int) : (Nat → Int) := shut (sub_v f g)
theorem sub_e (f g : Nat → Int) : sub_m f g = sub_v f g := shut_eq _
def c_sub (f g : Nat → Int) : Con := ⟨[.ar .u16 256 f, .ar .u16 256 g], [], .ar .u16 256 (sub_m f g), []⟩
theorem sub_ok (f g : Nat → Int) : ConOk Try.prog 125 (c_sub f g) := by
 refine conOk_of rfl (nb := 0) Try.func125 rfl rfl Try.ntmps125 rfl rfl rfl fun g0 w0 ac gs ws hg0 hS => ?_
 have hS := hS.sp
 refine s0 [2, 3, 4] [0, 1, 2] 3 hS fun hS => ?_
 refine wp_seq (s0 [2, 3, 4, 6] [0, 1, 2] 3 hS fun hS => ?_)
 refine wp_block (loop_y (ι := Nat × (Nat → Int)) hg0 hS (fun z_ => match z_ with | (x6, o2_0) => 256 - x6) (fun z_ => match z_ with | (x6, o2_0) => [(2, .cp 0 0), (3, .cp 1 0), (4, .cp 2 0), (6, vi ((x6 : Nat) : Int))]) (fun z_ => match z_ with | (x6, o2_0) => [(0, .ob 60 (chain [.ar .u16 256 o2_0])), (1, .ob 60 (chain [.ar .u16 256 g])), (2, .ob 60 (chain [.ar .u16 256 (fun _ => 0)]))]) (fun z_ => match z_ with | (x6, o2_0) => (x6 ≤ 256) ∧ (o2_0 = sub_l1 f g x6) ∧ True) 3 (0, f) [(0, 0), (1, 1), (2, 2)] ⟨omm, rfl, trivial⟩ ?_)
 rintro ⟨x6, o2_0⟩ ac gs ws ⟨hx6, hq1, _⟩ hS
 refine s0 [2, 3, 4, 6, 7] [0, 1, 2] 3 hS fun hS => ?_
 refine wp_seq ?_
 refine if_d ((x6 : Int) < 256) hS (fun h1 => ?_) (fun h1 => ?_)
 ·refine wp_skip (then_n (wp_seq (wp_block (s0 [2, 3, 4, 5, 6] [0, 1, 2] 3 hS fun hS => ?_))))
  refine rA [(12, .call ⟨71, (c_mod (isub .u32 (iadd .u32 (IntKind.wrap .u32 (o2_0 x6)) 3329) (IntKind.wrap .u32 (irem (g x6) 3329)))), [], []⟩)] ⟨mod_ok _, trivial⟩ (fun C => [(0 : Int) ≤ (x6 : Int) ∧ ((x6 : Int) : Int) < 256, (0 : Int) ≤ (x6 : Int) ∧ ((x6 : Int) : Int) < 256, (3329 : Int) ≠ 0, ndC C 12, (0 : Int) ≤ (x6 : Int) ∧ ((x6 : Int) : Int) < 256]) [2, 3, 4, 6] [0, 1, 2] 3 ⟨by omega, by omega, by omega, rfl, by omega, trivial⟩ hS fun hS => ?_
  refine block_n (then_n (rA [(0, .oi ((x6 + 1 : Nat) : Int))] trivial (fun _ => [iadd .i64 (x6 : Int) 1 = ((x6 + 1 : Nat) : Int)]) [2, 3, 4, 6] [0, 1, 2] 3 ⟨by rw [iadd64 omm omm]; omega, trivial⟩ hS fun hS => ?_))
  refine then_n ?_
  exact next_y hg0 hS (s := (x6, o2_0)) (x6 + 1, upd o2_0 x6 (mod_m (isub .u32 (iadd .u32 (IntKind.wrap .u32 (o2_0 x6)) 3329) (IntKind.wrap .u32 (irem (g x6) 3329))))) [(0, 0), (1, 1), (2, 2)] (show 256 - (x6 + 1) < 256 - x6 from by omega) ⟨omm, (it_next (F := sub_l1 f g) (st := sub_l1_s f g) (fun _ => rfl) hq1 rfl), trivial⟩
 ·have hScur := hS
  obtain rfl : 256 = x6 := by omega
  obtain rfl : sub_l1 f g 256 = o2_0 := Eq.symm (congrArg (fun z => z) hq1)
  have hS := hScur
  clear hScur
  refine wp_exit (then_exit (then_exit (block_exit (then_n (s0 [4] [2] 3 hS fun hS => ?_)))))
  refine wp_ret ?_
  have hM : sub_m f g = sub_l1 f g 256 := sub_e f g
  exact fin_y rfl (.inr rfl) hS [.ar .u16 256 (sub_l1 f g 256)] [] (by show weak _ (.ar .u16 256 (sub_m f g)) = (.ar .u16 256 (sub_m f g)); rw [hM]; first | (simp only []; rfl) | (simp only []; done) | rfl) trivial

def turned_l1_s (i x3 : Nat) : (Int × Int) → (Int × Int) := fun z_ => match z_ with | (x0, x2) => ((ishr .i64 x0 1), (ior .i64 (ishl .i64 x2 1) (iand .i64 x0 1)))
def turned_l1 (i : Nat) : Nat → Int × Int
 | 0 => ((i : Int), 0)
 | x3 + 1 => turned_l1_s i x3 (turned_l1 i x3)
def turned_v (i : Nat) : Int := ((turned_l1 i 7).2)
def turned_m (i : Nat) : Int := shut (turned_v i)
theorem turned_e (i : Nat) : turned_m i = turned_v i := shut_eq _
theorem turned_lt (i : Nat) (h : i < 128) : 0 ≤ turned_m i ∧ turned_m i < 128 := by
 have key : ((List.range 128).all fun i => decide (0 ≤ turned_v i) && decide (turned_v i < 128)) = true := by kernel_rfl
 have := List.all_eq_true.1 key i (List.mem_range.2 h)
 rw [Bool.and_eq_true, decide_eq_true_iff, decide_eq_true_iff] at this
 rw [turned_e]
 exact this
def c_turned (i : Nat) : Con := ⟨[vi (i : Int)], [], vi (turned_m i), []⟩
theorem turned_ok (i : Nat) (h : i < 128) : ConOk Try.prog 99 (c_turned i) := by
 refine conOk_of rfl (nb := 0) Try.func99 rfl rfl Try.ntmps99 rfl rfl rfl fun g0 w0 ac gs ws hg0 hS => ?_
 have hS := hS.sp
 refine s0 [0, 2] [] 0 hS fun hS => ?_
 refine wp_seq (s0 [0, 2, 3] [] 0 hS fun hS => ?_)
 refine wp_block (loop_y (ι := Nat × Int × Int) hg0 hS (fun z_ => match z_ with | (x3, x0, x2) => 7 - x3) (fun z_ => match z_ with | (x3, x0, x2) => [(0, vi x0), (2, vi x2), (3, vi ((x3 : Nat) : Int))]) (fun z_ => match z_ with | (x3, x0, x2) => []) (fun z_ => match z_ with | (x3, x0, x2) => (x3 ≤ 7) ∧ ((x0, x2) = turned_l1 i x3) ∧ True) 0 (0, (i : Int), 0) [] ⟨omm, rfl, trivial⟩ ?_)
 rintro ⟨x3, x0, x2⟩ ac gs ws ⟨hx3, hq1, _⟩ hS
 refine s0 [0, 2, 3, 4] [] 0 hS fun hS => ?_
 refine wp_seq ?_
 refine if_d ((x3 : Int) < 7) hS (fun h1 => ?_) (fun h1 => ?_)
 ·refine wp_skip (then_n (wp_seq (wp_block (sA [] trivial (fun _ => [(0 : Int) ≤ 1]) [0, 2, 3] [] 0 ⟨by omega, trivial⟩ hS fun hS => ?_))))
  refine rA [] trivial (fun _ => [(0 : Int) ≤ 1]) [0, 2, 3] [] 0 ⟨by omega, trivial⟩ hS fun hS => ?_
  refine block_n (then_n (rA [(0, .oi ((x3 + 1 : Nat) : Int))] trivial (fun _ => [iadd .i64 (x3 : Int) 1 = ((x3 + 1 : Nat) : Int)]) [0, 2, 3] [] 0 ⟨by rw [iadd64 omm omm]; omega, trivial⟩ hS fun hS => ?_))
  refine then_n ?_
  exact next_y hg0 hS (s := (x3, x0, x2)) (x3 + 1, (ishr .i64 x0 1), (ior .i64 (ishl .i64 x2 1) (iand .i64 x0 1))) [] (show 7 - (x3 + 1) < 7 - x3 from by omega) ⟨omm, (it_next (F := turned_l1 i) (st := turned_l1_s i) (fun _ => rfl) hq1 rfl), trivial⟩
 ·have hScur := hS
  obtain rfl : 7 = x3 := by omega
  obtain rfl : (turned_l1 i 7).1 = x0 := Eq.symm (congrArg (fun z => z.1) hq1)
  obtain rfl : (turned_l1 i 7).2 = x2 := Eq.symm (congrArg (fun z => z.2) hq1)
  have hS := hScur
  clear hScur
  refine wp_exit (then_exit (then_exit (block_exit (then_n (s0 [2] [] 0 hS fun hS => ?_)))))
  refine wp_ret ?_
  have hM : turned_m i = ((turned_l1 i 7).2) := turned_e i
  exact fin_y rfl (.inr rfl) hS [vi ((turned_l1 i 7).2)] [] (by show weak _ (vi (turned_m i)) = (vi (turned_m i)); rw [hM]; first | (simp only []; rfl) | (simp only []; done) | rfl) trivial

def zetas_l1_s (k1 : Nat) : (Nat × (Nat → Int)) → (Nat × (Nat → Int)) := fun z_ => match z_ with | (x2, o1_0) => (x2 + 1, upd o1_0 x2 (irem (imul .u32 (o1_0 (Int.toNat (((x2 : Nat) : Int) - 1))) 17) 3329))
def zetas_l1 : Nat → Nat × (Nat → Int)
 | 0 => (1, upd (fun _ => 0) 0 1)
 | k1 + 1 => zetas_l1_s k1 (zetas_l1 k1)
def zetas_l1_c : (Nat × (Nat → Int)) → Prop := fun z_ => match z_ with | (x2, o1_0) => ((x2 : Nat) : Int) < 128
def zetas_l2_s (x17 : Nat) : (Nat → Int) → (Nat → Int) := fun o0_0 => upd o0_0 x17 (((zetas_l1 (lst fun j => zetas_l1_c (zetas_l1 j))).2) (Int.toNat (turned_m x17)))
def zetas_l2 : Nat → (Nat → Int)
 | 0 => fun _ => 0
 | x17 + 1 => zetas_l2_s x17 (zetas_l2 x17)
def zetas_v : (Nat → Int) := zetas_l2 128
def zetas_m : (Nat → Int) := shut (zetas_v)
theorem zetas_e : zetas_m = zetas_v := shut_eq _
def c_zetas : Con := ⟨[], [], .ar .u32 128 zetas_m, []⟩
theorem zetas_ok : ConOk Try.prog 70 (c_zetas) := by
 refine conOk_of rfl (nb := 0) Try.func70 rfl rfl Try.ntmps70 rfl rfl rfl fun g0 w0 ac gs ws hg0 hS => ?_
 have hS := hS.sp
 refine s0 [0] [0] 1 hS fun hS => ?_
 refine s0 [0, 1] [0, 1] 2 hS fun hS => ?_
 refine sA [] trivial (fun _ => [(0 : Int) ≤ 0 ∧ (0 : Int) < 128]) [0, 1] [0, 1] 2 ⟨by omega, trivial⟩ hS fun hS => ?_
 refine wp_seq (s0 [0, 1, 2] [0, 1] 2 hS fun hS => ?_)
 refine wp_block (loop_y (ι := Nat × Nat × (Nat → Int)) hg0 hS (fun z_ => match z_ with | (k1, x2, o1_0) => 128 - x2) (fun z_ => match z_ with | (k1, x2, o1_0) => [(0, .cp 0 0), (1, .cp 1 0), (2, vi ((x2 : Nat) : Int))]) (fun z_ => match z_ with | (k1, x2, o1_0) => [(0, .ob 106 (chain [.ar .u32 128 (fun _ => 0)])), (1, .ob 106 (chain [.ar .u32 128 o1_0]))]) (fun z_ => match z_ with | (k1, x2, o1_0) => ((x2, o1_0) = zetas_l1 k1) ∧ (∀ j, j < k1 → zetas_l1_c (zetas_l1 j)) ∧ (x2 ≤ 128) ∧ (1 ≤ x2) ∧ True) 2 (0, 1, upd (fun _ => 0) 0 1) [(0, 0), (1, 1)] ⟨rfl, (fun j h => absurd h (Nat.not_lt_zero j)), omm, omm, trivial⟩ ?_)
 rintro ⟨k1, x2, o1_0⟩ ac gs ws ⟨hq1, hj1, p1, p2, _⟩ hS
 refine wp_seq (s0 [0, 1, 2, 6] [0, 1] 2 hS fun hS => ?_)
 refine if_d ((x2 : Int) < 128) hS (fun h1 => ?_) (fun h1 => ?_)
 ·refine wp_skip (then_n (wp_seq (wp_block (rA [(2, .oi ((x2 : Int) - 1))] trivial (fun _ => [isub .i64 (x2 : Int) 1 = ((x2 : Int) - 1), (0 : Int) ≤ ((x2 : Int) - 1) ∧ (((x2 : Int) - 1) : Int) < 128, (3329 : Int) ≠ 0, (0 : Int) ≤ (x2 : Int) ∧ ((x2 : Int) : Int) < 128]) [0, 1, 2] [0, 1] 2 ⟨isub64 omm omm, by omega, by omega, by omega, trivial⟩ hS fun hS => ?_))))
  refine block_n (then_n (rA [(1, .oi ((x2 + 1 : Nat) : Int))] trivial (fun _ => [iadd .i64 (x2 : Int) 1 = ((x2 + 1 : Nat) : Int)]) [0, 1, 2] [0, 1] 2 ⟨by rw [iadd64 omm omm]; omega, trivial⟩ hS fun hS => ?_))
  refine then_n ?_
  exact next_y hg0 hS (s := (k1, x2, o1_0)) (k1 + 1, x2 + 1, upd o1_0 x2 (irem (imul .u32 (o1_0 (Int.toNat ((x2 : Int) - 1))) 17) 3329)) [(0, 0), (1, 1)] (show 128 - (x2 + 1) < 128 - x2 from by omega) ⟨(it_next (F := zetas_l1) (st := zetas_l1_s) (fun _ => rfl) hq1 rfl), (lst_next hj1 (by rw [← hq1]; exact h1)), omm, omm, trivial⟩
 ·have hScur := hS
  obtain rfl := lst_eq (P := fun j => zetas_l1_c (zetas_l1 j)) (by rw [← hq1]; first | exact h1 | exact not_not_intro h1) hj1
  obtain rfl : (zetas_l1 (lst fun j => zetas_l1_c (zetas_l1 j))).1 = x2 := Eq.symm (congrArg (fun z => z.1) hq1)
  obtain rfl : (zetas_l1 (lst fun j => zetas_l1_c (zetas_l1 j))).2 = o1_0 := Eq.symm (congrArg (fun z => z.2) hq1)
  have hS := hScur
  clear hScur
  refine wp_exit (then_exit (then_exit (block_exit (then_n (wp_seq (s0 [0, 1, 17] [0, 1] 2 hS fun hS => ?_))))))
  refine wp_block (loop_y (ι := Nat × (Nat → Int)) hg0 hS (fun z_ => match z_ with | (x17, o0_0) => 128 - x17) (fun z_ => match z_ with | (x17, o0_0) => [(0, .cp 0 0), (1, .cp 1 0), (17, vi ((x17 : Nat) : Int))]) (fun z_ => match z_ with | (x17, o0_0) => [(0, .ob 106 (chain [.ar .u32 128 o0_0])), (1, .ob 106 (chain [.ar .u32 128 ((zetas_l1 (lst fun j => zetas_l1_c (zetas_l1 j))).2)]))]) (fun z_ => match z_ with | (x17, o0_0) => (x17 ≤ 128) ∧ (o0_0 = zetas_l2 x17) ∧ True) 2 (0, fun _ => 0) [(0, 0), (1, 1)] ⟨omm, rfl, trivial⟩ ?_)
  rintro ⟨x17, o0_0⟩ ac gs ws ⟨hx17, hq2, _⟩ hS
  refine s0 [0, 1, 17, 18] [0, 1] 2 hS fun hS => ?_
  refine wp_seq ?_
  refine if_d ((x17 : Int) < 128) hS (fun h2 => ?_) (fun h2 => ?_)
  ·refine wp_skip (then_n (wp_seq (wp_block (s0 [0, 1, 3, 17] [0, 1] 2 hS fun hS => ?_))))
   have ht := turned_lt x17 omm
   refine rA [(2, .call ⟨99, (c_turned x17), [], []⟩)] ⟨turned_ok _ omm, trivial⟩ (fun C => [ndC C 2, (0 : Int) ≤ (turned_m x17) ∧ ((turned_m x17) : Int) < 128, (0 : Int) ≤ (x17 : Int) ∧ ((x17 : Int) : Int) < 128]) [0, 1, 17] [0, 1] 2 ⟨rfl, by omega, by omega, trivial⟩ hS fun hS => ?_
   refine block_n (then_n (rA [(0, .oi ((x17 + 1 : Nat) : Int))] trivial (fun _ => [iadd .i64 (x17 : Int) 1 = ((x17 + 1 : Nat) : Int)]) [0, 1, 17] [0, 1] 2 ⟨by rw [iadd64 omm omm]; omega, trivial⟩ hS fun hS => ?_))
   refine then_n ?_
   exact next_y hg0 hS (s := (x17, o0_0)) (x17 + 1, upd o0_0 x17 (((zetas_l1 (lst fun j => zetas_l1_c (zetas_l1 j))).2) (Int.toNat (turned_m x17)))) [(0, 0), (1, 1)] (show 128 - (x17 + 1) < 128 - x17 from by omega) ⟨omm, (it_next (F := zetas_l2) (st := zetas_l2_s) (fun _ => rfl) hq2 rfl), trivial⟩
  ·have hScur := hS
   obtain rfl : 128 = x17 := by omega
   obtain rfl : zetas_l2 128 = o0_0 := Eq.symm (congrArg (fun z => z) hq2)
   have hS := hScur
   clear hScur
   refine wp_exit (then_exit (then_exit (block_exit (then_n (s0 [0] [0] 2 hS fun hS => ?_)))))
   refine wp_ret ?_
   have hM : zetas_m = zetas_l2 128 := zetas_e
   exact fin_y rfl (.inr rfl) hS [.ar .u32 128 (zetas_l2 128)] [] (by show weak _ (.ar .u32 128 zetas_m) = (.ar .u32 128 zetas_m); rw [hM]; first | (simp only []; rfl) | (simp only []; done) | rfl) trivial

def PW (h : Nat) : Prop := h = 1 ∨ h = 2 ∨ h = 4 ∨ h = 8 ∨ h = 16 ∨ h = 32 ∨ h = 64 ∨ h = 128
theorem ntt_a {h k : Nat} (h2 : 2 ≤ h) (hh : PW h) (hk : k * h = 128) : k * (2 * h) = 256 + 0 ∧ PW (h / 2) ∧ h ≤ 128 := by
 unfold PW at hh ⊢
 rcases hh with rfl | rfl | rfl | rfl | rfl | rfl | rfl | rfl <;> omega
theorem ntt_b {h k f : Nat} (h2 : 2 ≤ h) (hh : PW h) (hk : k * (2 * h) = 256 + f) (hf : f < 256) : f + 2 * h ≤ 256 ∧ k < 128 ∧ (k + 1) * (2 * h) = 256 + (f + 2 * h) := by
 unfold PW at hh
 rcases hh with rfl | rfl | rfl | rfl | rfl | rfl | rfl | rfl <;> omega
theorem ntt_c {h k f : Nat} (h2 : 2 ≤ h) (hh : PW h) (hk : k * (2 * h) = 256 + f) (hf : f = 256) : k * (h / 2) = 128 := by
 unfold PW at hh
 rcases hh with rfl | rfl | rfl | rfl | rfl | rfl | rfl | rfl <;> omega
def ntt_l3_s (f : Nat → Int) (k1 : Nat) (x4 x5 : Nat) (o1_0 : Nat → Int) (k2 : Nat) (x4_2 x6 : Nat) (o1_0_2 : Nat → Int) (k3 : Nat) : (Nat × (Nat → Int)) → (Nat × (Nat → Int)) := fun z_ => match z_ with | (x7, o1_0_3) => (x7 + 1, upd (upd o1_0_3 x7 (mod_m (iadd .u32 (IntKind.wrap .u32 (o1_0_3 x7)) (irem (imul .u32 (zetas_m x4_2) (IntKind.wrap .u32 (o1_0_3 (x7 + x5)))) 3329)))) (x7 + x5) (mod_m (isub .u32 (iadd .u32 (IntKind.wrap .u32 (o1_0_3 x7)) 3329) (irem (imul .u32 (zetas_m x4_2) (IntKind.wrap .u32 (o1_0_3 (x7 + x5)))) 3329))))
def ntt_l3 (f : Nat → Int) (k1 : Nat) (x4 x5 : Nat) (o1_0 : Nat → Int) (k2 : Nat) (x4_2 x6 : Nat) (o1_0_2 : Nat → Int) : Nat → Nat × (Nat → Int)
 | 0 => (x6, o1_0_2)
 | k3 + 1 => ntt_l3_s f k1 x4 x5 o1_0 k2 x4_2 x6 o1_0_2 k3 (ntt_l3 f k1 x4 x5 o1_0 k2 x4_2 x6 o1_0_2 k3)
def ntt_l3_c (f : Nat → Int) (k1 : Nat) (x4 x5 : Nat) (o1_0 : Nat → Int) (k2 : Nat) (x4_2 x6 : Nat) (o1_0_2 : Nat → Int) : (Nat × (Nat → Int)) → Prop := fun z_ => match z_ with | (x7, o1_0_3) => ((x7 : Nat) : Int) < ((x6 + x5 : Nat) : Int)
def ntt_l2_s (f : Nat → Int) (k1 : Nat) (x4 x5 : Nat) (o1_0 : Nat → Int) (k2 : Nat) : (Nat × Nat × (Nat → Int)) → (Nat × Nat × (Nat → Int)) := fun z_ => match z_ with | (x4_2, x6, o1_0_2) => (x4_2 + 1, x6 + (2 * x5), (ntt_l3 f k1 x4 x5 o1_0 k2 x4_2 x6 o1_0_2 (lst fun j => ntt_l3_c f k1 x4 x5 o1_0 k2 x4_2 x6 o1_0_2 (ntt_l3 f k1 x4 x5 o1_0 k2 x4_2 x6 o1_0_2 j))).2)
def ntt_l2 (f : Nat → Int) (k1 : Nat) (x4 x5 : Nat) (o1_0 : Nat → Int) : Nat → Nat × Nat × (Nat → Int)
 | 0 => (x4, 0, o1_0)
 | k2 + 1 => ntt_l2_s f k1 x4 x5 o1_0 k2 (ntt_l2 f k1 x4 x5 o1_0 k2)
def ntt_l2_c (f : Nat → Int) (k1 : Nat) (x4 x5 : Nat) (o1_0 : Nat → Int) : (Nat × Nat × (Nat → Int)) → Prop := fun z_ => match z_ with | (x4_2, x6, o1_0_2) => ((x6 : Nat) : Int) < 256
def ntt_l1_s (f : Nat → Int) (k1 : Nat) : (Nat × Nat × (Nat → Int)) → (Nat × Nat × (Nat → Int)) := fun z_ => match z_ with | (x4, x5, o1_0) => ((ntt_l2 f k1 x4 x5 o1_0 (lst fun j => ntt_l2_c f k1 x4 x5 o1_0 (ntt_l2 f k1 x4 x5 o1_0 j))).1, x5 / 2, (ntt_l2 f k1 x4 x5 o1_0 (lst fun j => ntt_l2_c f k1 x4 x5 o1_0 (ntt_l2 f k1 x4 x5 o1_0 j))).2.2)
def ntt_l1 (f : Nat → Int) : Nat → Nat × Nat × (Nat → Int)
 | 0 => (1, 128, add_m f (fun _ => 0))
 | k1 + 1 => ntt_l1_s f k1 (ntt_l1 f k1)
def ntt_l1_c (f : Nat → Int) : (Nat × Nat × (Nat → Int)) → Prop := fun z_ => match z_ with | (x4, x5, o1_0) => (2 : Int) ≤ ((x5 : Nat) : Int)
def ntt_v (f : Nat → Int) : (Nat → Int) := (ntt_l1 f (lst fun j => ntt_l1_c f (ntt_l1 f j))).2.2
def ntt_m (f : Nat → Int) : (Nat → Int) := shut (ntt_v f)
theorem ntt_e (f : Nat → Int) : ntt_m f = ntt_v f := shut_eq _
def c_ntt (f : Nat → Int) : Con := ⟨[.ar .u16 256 f], [], .ar .u16 256 (ntt_m f), []⟩
theorem ntt_ok (f : Nat → Int) : ConOk Try.prog 41 (c_ntt f) := by
 refine conOk_of rfl (nb := 0) Try.func41 rfl rfl Try.ntmps41 rfl rfl rfl fun g0 w0 ac gs ws hg0 hS => ?_
 have hS := hS.sp
 refine s0 [1, 2] [0, 1] 2 hS fun hS => ?_
 refine sA [(0, .ov (.ar .u16 256 f)), (2, .call ⟨42, (c_add f (fun _ => 0)), [], []⟩)] ⟨add_ok _ _, trivial⟩ (fun _ => [(.ar .u16 256 f : D) = (.ar .u16 256 f), nd [.ar .u16 256 f, .ar .u16 256 (fun _ => 0)] []]) [1, 2] [0, 1] 2 ⟨rfl, rfl, trivial⟩ hS fun hS => ?_
 refine sA [(0, .call ⟨70, (c_zetas), [], []⟩)] ⟨zetas_ok, trivial⟩ (fun C => [ndC C 0]) [1, 2, 3, 4] [0, 1, 2] 3 ⟨rfl, trivial⟩ hS fun hS => ?_
 refine wp_seq (s0 [1, 2, 3, 4, 5] [0, 1, 2] 3 hS fun hS => ?_)
 refine wp_block (loop_y (ι := Nat × Nat × Nat × (Nat → Int)) hg0 hS (fun z_ => match z_ with | (k1, x4, x5, o1_0) => x5) (fun z_ => match z_ with | (k1, x4, x5, o1_0) => [(1, .cp 0 0), (2, .cp 1 0), (3, .cp 2 0), (4, vi ((x4 : Nat) : Int)), (5, vi ((x5 : Nat) : Int))]) (fun z_ => match z_ with | (k1, x4, x5, o1_0) => [(0, .ob 60 (chain [.ar .u16 256 o1_0])), (1, .ob 60 (chain [.ar .u16 256 (fun _ => 0)])), (2, .ob 106 (chain [.ar .u32 128 zetas_m]))]) (fun z_ => match z_ with | (k1, x4, x5, o1_0) => ((x4, x5, o1_0) = ntt_l1 f k1) ∧ (∀ j, j < k1 → ntt_l1_c f (ntt_l1 f j)) ∧ (PW x5) ∧ (x4 * x5 = 128) ∧ True) 3 (0, 1, 128, add_m f (fun _ => 0)) [(0, 0), (1, 1), (2, 2)] ⟨rfl, (fun j h => absurd h (Nat.not_lt_zero j)), (by unfold PW; omega), rfl, trivial⟩ ?_)
 rintro ⟨k1, x4, x5, o1_0⟩ ac gs ws ⟨hq1, hj1, pw, pk, _⟩ hS
 refine wp_seq (s0 [1, 2, 3, 4, 5, 14] [0, 1, 2] 3 hS fun hS => ?_)
 refine if_d ((2 : Int) ≤ (x5 : Int)) hS (fun h1 => ?_) (fun h1 => ?_)
 ·refine wp_skip (then_n (wp_seq (wp_block (wp_seq ?_))))
  have pa := ntt_a omm pw pk
  refine r0 [1, 2, 3, 4, 5, 6] [0, 1, 2] 3 hS fun hS => ?_
  refine then_n (wp_block (loop_y (ι := Nat × Nat × Nat × (Nat → Int)) hg0 hS (fun z_ => match z_ with | (k2, x4_2, x6, o1_0_2) => 256 - x6) (fun z_ => match z_ with | (k2, x4_2, x6, o1_0_2) => [(1, .cp 0 0), (2, .cp 1 0), (3, .cp 2 0), (4, vi ((x4_2 : Nat) : Int)), (5, vi (x5 : Int)), (6, vi ((x6 : Nat) : Int))]) (fun z_ => match z_ with | (k2, x4_2, x6, o1_0_2) => [(0, .ob 60 (chain [.ar .u16 256 o1_0_2])), (1, .ob 60 (chain [.ar .u16 256 (fun _ => 0)])), (2, .ob 106 (chain [.ar .u32 128 zetas_m]))]) (fun z_ => match z_ with | (k2, x4_2, x6, o1_0_2) => ((x4_2, x6, o1_0_2) = ntt_l2 f k1 x4 x5 o1_0 k2) ∧ (∀ j, j < k2 → ntt_l2_c f k1 x4 x5 o1_0 (ntt_l2 f k1 x4 x5 o1_0 j)) ∧ (x4_2 * (2 * x5) = 256 + x6) ∧ (x6 ≤ 256) ∧ True) 3 (0, x4, 0, o1_0) [(0, 0), (1, 1), (2, 2)] ⟨rfl, (fun j h => absurd h (Nat.not_lt_zero j)), pa.1, omm, trivial⟩ ?_))
  rintro ⟨k2, x4_2, x6, o1_0_2⟩ ac gs ws ⟨hq2, hj2, p2, p3, _⟩ hS
  refine wp_seq (s0 [1, 2, 3, 4, 5, 6, 18] [0, 1, 2] 3 hS fun hS => ?_)
  refine if_d ((x6 : Int) < 256) hS (fun h2 => ?_) (fun h2 => ?_)
  ·refine wp_skip (then_n (wp_seq (wp_block (wp_seq (wp_seq ?_)))))
   have pb := ntt_b omm pw p2 omm
   refine r0 [1, 2, 3, 4, 5, 6, 7] [0, 1, 2] 3 hS fun hS => ?_
   refine then_n (wp_block (loop_y (ι := Nat × Nat × (Nat → Int)) hg0 hS (fun z_ => match z_ with | (k3, x7, o1_0_3) => x6 + x5 - x7) (fun z_ => match z_ with | (k3, x7, o1_0_3) => [(1, .cp 0 0), (2, .cp 1 0), (3, .cp 2 0), (4, vi (x4_2 : Int)), (5, vi (x5 : Int)), (6, vi (x6 : Int)), (7, vi ((x7 : Nat) : Int))]) (fun z_ => match z_ with | (k3, x7, o1_0_3) => [(0, .ob 60 (chain [.ar .u16 256 o1_0_3])), (1, .ob 60 (chain [.ar .u16 256 (fun _ => 0)])), (2, .ob 106 (chain [.ar .u32 128 zetas_m]))]) (fun z_ => match z_ with | (k3, x7, o1_0_3) => ((x7, o1_0_3) = ntt_l3 f k1 x4 x5 o1_0 k2 x4_2 x6 o1_0_2 k3) ∧ (∀ j, j < k3 → ntt_l3_c f k1 x4 x5 o1_0 k2 x4_2 x6 o1_0_2 (ntt_l3 f k1 x4 x5 o1_0 k2 x4_2 x6 o1_0_2 j)) ∧ (x6 ≤ x7) ∧ (x7 ≤ x6 + x5) ∧ True) 3 (0, x6, o1_0_2) [(0, 0), (1, 1), (2, 2)] ⟨rfl, (fun j h => absurd h (Nat.not_lt_zero j)), omm, omm, trivial⟩ ?_))
   rintro ⟨k3, x7, o1_0_3⟩ ac gs ws ⟨hq3, hj3, p4, p5, _⟩ hS
   refine wp_seq (sA [(3, .oi ((x6 + x5 : Nat) : Int))] trivial (fun _ => [iadd .i64 (x6 : Int) (x5 : Int) = ((x6 + x5 : Nat) : Int)]) [1, 2, 3, 4, 5, 6, 7, 28] [0, 1, 2] 3 ⟨by rw [iadd64 omm omm]; omega, trivial⟩ hS fun hS => ?_)
   refine if_d ((x7 : Int) < ((x6 + x5 : Nat) : Int)) hS (fun h3 => ?_) (fun h3 => ?_)
   ·refine wp_skip (then_n (wp_seq (wp_block (sA [(5, .oi ((x7 + x5 : Nat) : Int))] trivial (fun _ => [(0 : Int) ≤ (x4_2 : Int) ∧ ((x4_2 : Int) : Int) < 128, iadd .i64 (x7 : Int) (x5 : Int) = ((x7 + x5 : Nat) : Int), (0 : Int) ≤ ((x7 + x5 : Nat) : Int) ∧ (((x7 + x5 : Nat) : Int) : Int) < 256, (3329 : Int) ≠ 0]) [1, 2, 3, 4, 5, 6, 7, 8] [0, 1, 2] 3 ⟨by omega, by rw [iadd64 omm omm]; omega, by omega, by omega, trivial⟩ hS fun hS => ?_))))
    refine rA [(3, .oi ((x7 + x5 : Nat) : Int)), (10, .call ⟨71, (c_mod (iadd .u32 (IntKind.wrap .u32 (o1_0_3 x7)) (irem (imul .u32 (zetas_m x4_2) (IntKind.wrap .u32 (o1_0_3 (x7 + x5)))) 3329))), [], []⟩), (18, .call ⟨71, (c_mod (isub .u32 (iadd .u32 (IntKind.wrap .u32 (o1_0_3 x7)) 3329) (irem (imul .u32 (zetas_m x4_2) (IntKind.wrap .u32 (o1_0_3 (x7 + x5)))) 3329))), [], []⟩)] ⟨mod_ok _, mod_ok _, trivial⟩ (fun C => [iadd .i64 (x7 : Int) (x5 : Int) = ((x7 + x5 : Nat) : Int), (0 : Int) ≤ (x7 : Int) ∧ ((x7 : Int) : Int) < 256, ndC C 10, (0 : Int) ≤ (x7 : Int) ∧ ((x7 : Int) : Int) < 256, ndC C 18, (0 : Int) ≤ (x7 : Int) ∧ ((x7 : Int) : Int) < 256, (0 : Int) ≤ ((x7 + x5 : Nat) : Int) ∧ (((x7 + x5 : Nat) : Int) : Int) < 256]) [1, 2, 3, 4, 5, 6, 7] [0, 1, 2] 3 ⟨by rw [iadd64 omm omm]; omega, by omega, rfl, by omega, rfl, by omega, by omega, trivial⟩ hS fun hS => ?_
    refine block_n (then_n (rA [(1, .oi ((x7 + 1 : Nat) : Int))] trivial (fun _ => [iadd .i64 (x7 : Int) 1 = ((x7 + 1 : Nat) : Int)]) [1, 2, 3, 4, 5, 6, 7] [0, 1, 2] 3 ⟨by rw [iadd64 omm omm]; omega, trivial⟩ hS fun hS => ?_))
    refine then_n ?_
    exact next_y hg0 hS (s := (k3, x7, o1_0_3)) (k3 + 1, x7 + 1, upd (upd o1_0_3 x7 (mod_m (iadd .u32 (IntKind.wrap .u32 (o1_0_3 x7)) (irem (imul .u32 (zetas_m x4_2) (IntKind.wrap .u32 (o1_0_3 (x7 + x5)))) 3329)))) (x7 + x5) (mod_m (isub .u32 (iadd .u32 (IntKind.wrap .u32 (o1_0_3 x7)) 3329) (irem (imul .u32 (zetas_m x4_2) (IntKind.wrap .u32 (o1_0_3 (x7 + x5)))) 3329)))) [(0, 0), (1, 1), (2, 2)] (show x6 + x5 - (x7 + 1) < x6 + x5 - x7 from by omega) ⟨(it_next (F := ntt_l3 f k1 x4 x5 o1_0 k2 x4_2 x6 o1_0_2) (st := ntt_l3_s f k1 x4 x5 o1_0 k2 x4_2 x6 o1_0_2) (fun _ => rfl) hq3 rfl), (lst_next hj3 (by rw [← hq3]; exact h3)), omm, omm, trivial⟩
   ·have hScur := hS
    obtain rfl := lst_eq (P := fun j => ntt_l3_c f k1 x4 x5 o1_0 k2 x4_2 x6 o1_0_2 (ntt_l3 f k1 x4 x5 o1_0 k2 x4_2 x6 o1_0_2 j)) (by rw [← hq3]; first | exact h3 | exact not_not_intro h3) hj3
    obtain rfl : (ntt_l3 f k1 x4 x5 o1_0 k2 x4_2 x6 o1_0_2 (lst fun j => ntt_l3_c f k1 x4 x5 o1_0 k2 x4_2 x6 o1_0_2 (ntt_l3 f k1 x4 x5 o1_0 k2 x4_2 x6 o1_0_2 j))).1 = x7 := Eq.symm (congrArg (fun z => z.1) hq3)
    obtain rfl : (ntt_l3 f k1 x4 x5 o1_0 k2 x4_2 x6 o1_0_2 (lst fun j => ntt_l3_c f k1 x4 x5 o1_0 k2 x4_2 x6 o1_0_2 (ntt_l3 f k1 x4 x5 o1_0 k2 x4_2 x6 o1_0_2 j))).2 = o1_0_3 := Eq.symm (congrArg (fun z => z.2) hq3)
    have hS := hScur
    clear hScur
    refine wp_exit (then_exit (then_exit (block_exit (then_n (rA [(1, .oi ((x4_2 + 1 : Nat) : Int))] trivial (fun _ => [iadd .i64 (x4_2 : Int) 1 = ((x4_2 + 1 : Nat) : Int)]) [1, 2, 3, 4, 5, 6] [0, 1, 2] 3 ⟨by rw [iadd64 omm omm]; omega, trivial⟩ hS fun hS => ?_)))))
    refine block_n (then_n (rA [(2, .oi ((2 * x5 : Nat) : Int)), (3, .oi ((x6 + (2 * x5) : Nat) : Int))] trivial (fun _ => [imul .i64 2 (x5 : Int) = ((2 * x5 : Nat) : Int), iadd .i64 (x6 : Int) ((2 * x5 : Nat) : Int) = ((x6 + (2 * x5) : Nat) : Int)]) [1, 2, 3, 4, 5, 6] [0, 1, 2] 3 ⟨by rw [imul64 omm omm]; omega, by rw [iadd64 omm omm]; omega, trivial⟩ hS fun hS => ?_))
    refine then_n ?_
    exact next_y hg0 hS (s := (k2, x4_2, x6, o1_0_2)) (k2 + 1, x4_2 + 1, x6 + (2 * x5), (ntt_l3 f k1 x4 x5 o1_0 k2 x4_2 x6 o1_0_2 (lst fun j => ntt_l3_c f k1 x4 x5 o1_0 k2 x4_2 x6 o1_0_2 (ntt_l3 f k1 x4 x5 o1_0 k2 x4_2 x6 o1_0_2 j))).2) [(0, 0), (1, 1), (2, 2)] (show 256 - (x6 + (2 * x5)) < 256 - x6 from by omega) ⟨(it_next (F := ntt_l2 f k1 x4 x5 o1_0) (st := ntt_l2_s f k1 x4 x5 o1_0) (fun _ => rfl) hq2 rfl), (lst_next hj2 (by rw [← hq2]; exact h2)), pb.2.2, pb.1, trivial⟩
  ·have hScur := hS
   have pe := ntt_c omm pw p2 omm
   have pn := pa.2.1
   obtain rfl := lst_eq (P := fun j => ntt_l2_c f k1 x4 x5 o1_0 (ntt_l2 f k1 x4 x5 o1_0 j)) (by rw [← hq2]; first | exact h2 | exact not_not_intro h2) hj2
   obtain rfl : (ntt_l2 f k1 x4 x5 o1_0 (lst fun j => ntt_l2_c f k1 x4 x5 o1_0 (ntt_l2 f k1 x4 x5 o1_0 j))).1 = x4_2 := Eq.symm (congrArg (fun z => z.1) hq2)
   obtain rfl : (ntt_l2 f k1 x4 x5 o1_0 (lst fun j => ntt_l2_c f k1 x4 x5 o1_0 (ntt_l2 f k1 x4 x5 o1_0 j))).2.1 = x6 := Eq.symm (congrArg (fun z => z.2.1) hq2)
   obtain rfl : (ntt_l2 f k1 x4 x5 o1_0 (lst fun j => ntt_l2_c f k1 x4 x5 o1_0 (ntt_l2 f k1 x4 x5 o1_0 j))).2.2 = o1_0_2 := Eq.symm (congrArg (fun z => z.2.2) hq2)
   have hS := hScur
   clear hScur
   refine wp_exit (then_exit (then_exit (block_exit (block_n (then_n (rA [(1, .oi ((x5 / 2 : Nat) : Int))] trivial (fun _ => [iquo .i64 (x5 : Int) 2 = ((x5 / 2 : Nat) : Int), (2 : Int) ≠ 0]) [1, 2, 3, 4, 5] [0, 1, 2] 3 ⟨by rw [iquo64 omm omm omm]; omega, by omega, trivial⟩ hS fun hS => ?_))))))
   refine then_n ?_
   exact next_y hg0 hS (s := (k1, x4, x5, o1_0)) (k1 + 1, (ntt_l2 f k1 x4 x5 o1_0 (lst fun j => ntt_l2_c f k1 x4 x5 o1_0 (ntt_l2 f k1 x4 x5 o1_0 j))).1, x5 / 2, (ntt_l2 f k1 x4 x5 o1_0 (lst fun j => ntt_l2_c f k1 x4 x5 o1_0 (ntt_l2 f k1 x4 x5 o1_0 j))).2.2) [(0, 0), (1, 1), (2, 2)] (show (x5 / 2) < x5 from by omega) ⟨(it_next (F := ntt_l1 f) (st := ntt_l1_s f) (fun _ => rfl) hq1 rfl), (lst_next hj1 (by rw [← hq1]; exact h1)), pn, pe, trivial⟩
 ·have hScur := hS
  obtain rfl := lst_eq (P := fun j => ntt_l1_c f (ntt_l1 f j)) (by rw [← hq1]; first | exact h1 | exact not_not_intro h1) hj1
  obtain rfl : (ntt_l1 f (lst fun j => ntt_l1_c f (ntt_l1 f j))).1 = x4 := Eq.symm (congrArg (fun z => z.1) hq1)
  obtain rfl : (ntt_l1 f (lst fun j => ntt_l1_c f (ntt_l1 f j))).2.1 = x5 := Eq.symm (congrArg (fun z => z.2.1) hq1)
  obtain rfl : (ntt_l1 f (lst fun j => ntt_l1_c f (ntt_l1 f j))).2.2 = o1_0 := Eq.symm (congrArg (fun z => z.2.2) hq1)
  have hS := hScur
  clear hScur
  refine wp_exit (then_exit (then_exit (block_exit (then_n (s0 [2] [1] 3 hS fun hS => ?_)))))
  refine wp_ret ?_
  have hM : ntt_m f = (ntt_l1 f (lst fun j => ntt_l1_c f (ntt_l1 f j))).2.2 := ntt_e f
  exact fin_y rfl (.inr rfl) hS [.ar .u16 256 ((ntt_l1 f (lst fun j => ntt_l1_c f (ntt_l1 f j))).2.2)] [] (by show weak _ (.ar .u16 256 (ntt_m f)) = (.ar .u16 256 (ntt_m f)); rw [hM]; first | (simp only []; rfl) | (simp only []; done) | rfl) trivial

end
end Go.Sx.Try
