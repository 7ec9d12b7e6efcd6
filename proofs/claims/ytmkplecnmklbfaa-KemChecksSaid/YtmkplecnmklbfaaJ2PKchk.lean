/- General lemmas, walks. -/
import Derived.Lib.AppendZerosOnto
import Derived.Laws.CopyRow
import Derived.Lib.ConvBytes
import GoSem.Claim
import Derived.WideShapes
import Derived.Below
import Derived.WalkSmall
import Derived.Recover
import Derived.LoopN
import Derived.Test.YtmkplecnmklbfaaJ1PKchk
set_option maxRecDepth 100000
set_option maxHeartbeats 1000000
set_option linter.unusedSimpArgs false
set_option linter.unusedVariables false
set_option linter.unnecessarySimpa false
set_option linter.unusedSectionVars false
namespace Go.Sx
open Go.Mi Go.RowKit
variable [Dfr]
def valsD : D → Option (List Value)
 | .v x => bif x.oneCell' then some [x] else none
 | .ar k n f => some (cells k n f)
 | _ => none
def valsS : List D → Option (List Value)
 | [] => some []
 | d :: ds => match valsD d, valsS ds with
  | some a, some b => some (a ++ b)
  | _, _ => none
abbrev Zt := List (TypeId × List D)
def lkZ : Zt → TypeId → Option (List D)
 | [], _ => none
 | (s, v) :: r, t => bif Nat.beq s t then some v else lkZ r t
def ZOk (P : Program) : Zt → Prop
 | [] => True
 | (t, ds) :: r => (((P.info? t).bind (·.zero)).map (fun z => z.cells.toList) = valsS ds ∧ (valsS ds).isSome = true) ∧ ZOk P r
def fillS (place : Nat → Option (Nat × Nat)) : List D → List (Nat × D) → Option (List D)
 | ss, [] => some ss
 | ss, (i, d) :: r => match place i, toC d with
  | some (off, sz), some cs => bif Nat.beq (szS cs) sz then (putS cs sz ss off).bind fun q => fillS place q r else none
  | _, _ => none
def partsD (L : DL) : List (Nat × Operand) → Option (List (Nat × D))
 | [] => some []
 | (i, x) :: r => match opD L x, partsD L r with
  | some d, some ds => some ((i, d) :: ds)
  | _, _ => none
def placeS (P : Program) (t : TypeId) : Option (Nat → Option (Nat × Nat)) := match P.underlying t with
 | some (.array _ e) => (P.info? e).map fun i => fun j => some (j * i.size, i.size)
 | some (.struct fs) => (fs.toList.mapM fun f => (P.info? f.type).map fun i => (f.offset, i.size)).map fun pl => fun j => pl.toArray[j]?
 | _ => none
def rowsC (e : List Fk) (m : Nat) : Nat → List D → Option (List (RT e))
 | 0, ss => bif ss.isEmpty then some [] else none
 | k + 1, ss => match (getS ss 0 m).bind (toR e), dropS ss m with
  | some r, some q => (rowsC e m k q).map (r :: ·)
  | _, _ => none
def repS (k : Nat) (ss : List D) : List D := (List.replicate k ss).flatten
section
variable {P : Program} {n : Nat} {L : DL} {ds : Option Nat} {ty : TypeId} {pos : String} {af : Array Edge} {gu : Option (Nat × Bool)} {g : G} {w : World} {X : Nat → Prop} {N : Nat → Option Value}
theorem valsS_ok : ∀ {ss : List D} {l : List Value}, valsS ss = some l → semS X N w ss l ∧ ∀ u ∈ l, u.oneCell' = true
 | [], l, h => by simp only [valsS, Option.some.injEq] at h; subst h; exact ⟨rfl, by simp⟩
 | d :: ss, l, h => by
  simp only [valsS] at h
  split at h
  ·rename_i a b h1 h2
   cases h
   obtain ⟨k1, k2⟩ := valsS_ok h2
   have k3 : sem X N w d false a ∧ ∀ u ∈ a, u.oneCell' = true := by
    unfold valsD at h1
    split at h1
    ·rename_i x
     cases hx : Value.oneCell' x with
     | false => rw [hx] at h1; cases h1
     | true => rw [hx] at h1; cases h1; exact ⟨rfl, by simpa using hx⟩
    ·cases h1
     refine ⟨rfl, fun u hu => ?_⟩
     simp only [cells, List.mem_map] at hu
     obtain ⟨_, _, rfl⟩ := hu
     rfl
    ·cases h1
   exact ⟨⟨a, b, rfl, k3.1, k1⟩, fun u hu => (List.mem_append.1 hu).elim (k3.2 u) (k2 u)⟩
  ·cases h
theorem lkZ_ok : ∀ {Z : Zt} {t : TypeId} {ss : List D}, ZOk P Z → lkZ Z t = some ss → ∃ z, (P.info? t).bind (·.zero) = some z ∧ valsS ss = some z.cells.toList
 | [], t, ss, _, h => by cases h
 | (s, v) :: r, t, ss, hz, h => by
  simp only [lkZ] at h
  by_cases e : s = t
  ·subst e
   simp at h
   subst h
   obtain ⟨⟨h1, h2⟩, _⟩ := hz
   obtain ⟨q, hq⟩ := Option.isSome_iff_exists.1 h2
   rw [hq] at h1
   obtain ⟨z, h3, h4⟩ := Option.map_eq_some_iff.1 h1
   exact ⟨z, h3, by rw [hq, ← h4]⟩
  ·rw [beqf e] at h; exact lkZ_ok hz.2 h
theorem fold_put (off : Nat) : ∀ (vs : List Value) (j : Nat) (c : Array Value), off + j + vs.length ≤ c.size → (vs.zipIdx j).foldl (fun (cs : Array Value) (p : Value × Nat) => cs.setIfInBounds (off + p.2) p.1) c = put c (off + j) vs
 | [], j, c, _ => by simp [put]
 | v :: vs, j, c, h => by
  simp only [List.length_cons] at h
  rw [List.zipIdx_cons, List.foldl_cons, fold_put off vs (j + 1) _ (by simp; omega)]
  apply Array.ext'
  rw [put_toList, put_toList, Array.toList_setIfInBounds]
  have hlt : off + j < c.toList.length := by simp; omega
  rw [List.set_eq_take_append_cons_drop, if_pos hlt]
  have e1 : (c.toList.take (off + j)).length = off + j := by rw [List.length_take]; omega
  rw [show off + (j + 1) = off + j + 1 by omega]
  have e2 : (c.toList.take (off + j) ++ v :: c.toList.drop (off + j + 1)).take (off + j + 1) = c.toList.take (off + j) ++ [v] := by
   rw [List.take_append, List.take_of_length_le (by omega), e1, show off + j + 1 - (off + j) = 1 by omega]; simp
  have e3 : (c.toList.take (off + j) ++ v :: c.toList.drop (off + j + 1)).drop (off + j + 1 + vs.length) = c.toList.drop (off + j + (v :: vs).length) := by
   rw [List.drop_append, List.drop_eq_nil_of_le (by omega), e1, show off + j + 1 + vs.length - (off + j) = vs.length + 1 by omega, List.drop_succ_cons, List.drop_drop, List.nil_append]
   congr 1
   simp; omega
  rw [e2, e3]
  simp
theorem fillS_ok {place : Nat → Option (Nat × Nat)} : ∀ {ps : List (Nat × D)} {vs : List (Nat × Value)} {ss ss' : List D} {c : Array Value}, Fa2 (fun (p : Nat × D) (q : Nat × Value) => p.1 = q.1 ∧ Sm g w p.2 q.2) ps vs → semS g.X g.N w ss c.toList → (∀ u ∈ c.toList, u.oneCell' = true) → fillS place ss ps = some ss' →
  ∃ c', Instr.fill place c vs = some c' ∧ semS g.X g.N w ss' c'.toList ∧ (∀ u ∈ c'.toList, u.oneCell' = true) ∧ c'.size = c.size
 | [], [], ss, ss', c, _, h1, h2, h => by simp only [fillS, Option.some.injEq] at h; subst h; exact ⟨c, rfl, h1, h2, rfl⟩
 | (i, d) :: ps, (j, v) :: vs, ss, ss', c, hf, h1, h2, h => by
  obtain ⟨⟨rfl, hd⟩, hf⟩ := hf
  simp only [fillS] at h
  split at h
  ·rename_i off sz cs hp hc
   obtain ⟨c1, c2⟩ := toC_ok hd hc
   have hl := szS_len c1
   cases hb : Nat.beq (szS cs) sz with
   | false => rw [hb] at h; cases h
   | true =>
    rw [hb] at h
    have hs := Nat.eq_of_beq_eq_true hb
    simp only [cond_true] at h
    obtain ⟨q, k1, k2⟩ := Option.bind_eq_some_iff.1 h
    rw [← hs, ← hl] at k1
    obtain ⟨p1, p2⟩ := putS_ok c1 h1 k1
    have hlen : v.cells.toList.length = v.cells.size := Array.length_toList
    have hcl : c.toList.length = c.size := Array.length_toList
    have e1 : (put c off v.cells.toList).toList = c.toList.take off ++ v.cells.toList ++ c.toList.drop (off + v.cells.toList.length) := put_toList c off _
    obtain ⟨c', q1, q2, q3, q4⟩ := fillS_ok (ss := q) (c := put c off v.cells.toList) hf (by rw [e1]; exact p1) (fun u hu => by
     rw [e1] at hu
     rcases List.mem_append.1 hu with hu | hu
     ·rcases List.mem_append.1 hu with hu | hu
      ·exact h2 u (List.mem_of_mem_take hu)
      ·exact c2 u hu
     ·exact h2 u (List.mem_of_mem_drop hu)) k2
    refine ⟨c', ?_, q2, q3, by rw [q4, put_size (by omega)]⟩
    have hsz : v.cells.size = sz := by rw [← hlen, hl, hs]
    have hno : ¬ ((decide (v.cells.size ≠ sz) || decide (off + v.cells.size > c.size)) = true) := by simp; omega
    simp only [Instr.fill, hp]
    rw [if_neg hno]
    rw [← q1]
    congr 1
    rw [← Array.foldl_toList, Array.toList_zipIdx]
    have := fold_put off v.cells.toList 0 c (by omega)
    simpa using this
  ·cases h
theorem partsD_ev {ξ : Nat → Value} (hH : Hold L ξ g w) : ∀ {ps : List (Nat × Operand)} {es : List (Nat × D)}, partsD L ps = some es → ∃ vs : List (Nat × Value), (∀ a nn, Frm a nn (exL L ξ) → ps.map (fun p => (p.1, a.eval p.2)) = vs) ∧ Fa2 (fun (p : Nat × D) (q : Nat × Value) => p.1 = q.1 ∧ Sm g w p.2 q.2) es vs
 | [], es, h => by simp only [partsD, Option.some.injEq] at h; subst h; exact ⟨[], fun _ _ _ => rfl, trivial⟩
 | (i, x) :: r, es, h => by
  simp only [partsD] at h
  split at h
  ·rename_i d es' h1 h2
   cases h
   obtain ⟨v, k1, k2⟩ := opD_ev hH h1
   obtain ⟨vs, k3, k4⟩ := partsD_ev hH h2
   exact ⟨(i, v) :: vs, fun a nn hF => by rw [List.map_cons, k3 a nn hF, hF.eval k1], ⟨rfl, k2⟩, k4⟩
  ·cases h
def exBuild (P : Program) (Z : Zt) (L : DL) (t : TypeId) (ps : List (Nat × Operand)) : Option D := match lkZ Z t, placeS P t, partsD L ps with
 | some zs, some pl, some ds => (fillS pl zs ds).map mk1
 | _, _, _ => none
theorem exBuild_ok {Z : Zt} {t : TypeId} {ps : Array (Nat × Operand)} {d : D} (hZ : ZOk P Z) (h : exBuild P Z L t ps.toList = some d) : PureOk P n ⟨ds, .build t ps, ty, pos, af, gu⟩ L d [] := by
 intro _ ξ g w hH _
 unfold exBuild at h
 split at h
 ·rename_i zs pl es hz hp hps
  obtain ⟨ss, h1, rfl⟩ := Option.map_eq_some_iff.1 h
  obtain ⟨z, hz1, hz2⟩ := lkZ_ok hZ hz
  obtain ⟨v1, v2⟩ := valsS_ok (X := g.X) (N := g.N) (w := w) hz2
  obtain ⟨vs, k1, k2⟩ := partsD_ev hH hps
  obtain ⟨c', q1, q2, q3, q4⟩ := fillS_ok k2 v1 v2 h1
  refine ⟨.agg c', ?_, Det.of_run fun a hF => ?_⟩
  ·have := mk1_ok q2 q3
   simpa using this
  ·have e1 : (ps.map fun p => (p.1, a.eval p.2)).toList = vs := by rw [Array.toList_map]; exact k1 a n hF
   obtain ⟨it, hi, hzr⟩ := Option.bind_eq_some_iff.1 hz1
   have hb : P.built t (ps.map fun p => (p.1, a.eval p.2)).toList = some c' := by
    rw [e1]
    unfold placeS at hp
    unfold Program.built
    split at hp
    ·rename_i len e hu
     obtain ⟨ie, h2, rfl⟩ := Option.map_eq_some_iff.1 hp
     simp only [hi, hu, hzr, h2]
     exact q1
    ·rename_i fs hu
     obtain ⟨places, h2, rfl⟩ := Option.map_eq_some_iff.1 hp
     simp only [hi, hu, hzr, h2]
     exact q1
    ·cases hp
   simp only [execOp, Sem.run_bind, run_build w t _ c' hb, Result.andThen_ok]
   rfl
 ·cases h
end
end Go.Sx
namespace Go.Sx
open Go.Mi Go.RowKit
variable [Dfr]
section
variable {P : Program} {n : Nat} {L : DL} {ds : Option Nat} {ty : TypeId} {pos : String} {af : Array Edge} {gu : Option (Nat × Bool)} {g : G} {w w' : World} {H : Nat → Option O}
def G.more (g : G) (k : Nat) (v : Value) (F : List Nat) (X : Nat → Prop) : G := ⟨fun j => bif Nat.beq k j then some v else g.N j, fun j => bif Nat.beq k j then F else g.F j, X⟩
theorem G.more_N {g : G} {k : Nat} {v : Value} {F : List Nat} {X : Nat → Prop} : (g.more k v F X).N k = some v := by simp [G.more]
theorem G.more_F {g : G} {k : Nat} {v : Value} {F : List Nat} {X : Nat → Prop} : (g.more k v F X).F k = F := by simp [G.more]
theorem Go.more {S : Nat → Prop} {k : Nat} {v : Value} {F : List Nat} {X : Nat → Prop} (hk : g.N k = none) (hch : Chp S w w') (hs : ∀ x, S x → g.X x) (hx : ∀ x, X x → g.X x ∨ w.heap.size ≤ x) (hx2 : ∀ x, g.X x → ¬ S x → X x) : Go S g w (g.more k v F X) w' := by
 refine ⟨hch, hs, hx, hx2, fun j u hj => ?_, fun j u hj => ?_⟩
 ·have : ¬ k = j := fun e => by subst e; rw [hk] at hj; cases hj
  simp only [G.more, beqf this]; exact hj
 ·have : ¬ k = j := fun e => by subst e; rw [hk] at hj; cases hj
  simp only [G.more, beqf this]; rfl
theorem Post.quiet {rd : List Nat} {d : D} {v : Value} (hw : Wf g w) (hc : Chp (fun _ => False) w w') (h : Sm g w' d v) : Post H ⟨rd, [], [], d⟩ g w v g w' := by
 have hf : ∀ x, ¬ Eff.foot ⟨rd, [], [], d⟩ H g x := fun x ⟨k, hk, _⟩ => by simp [keys] at hk
 refine ⟨⟨⟨hc.os, hc.tape, hc.output, hc.size, fun b hb _ => hc.blk b hb id⟩, fun x hx => (hf x hx).elim, fun x h => .inl h, fun x h _ => h, fun _ _ h => h, fun _ _ _ => rfl⟩, h, ⟨fun x hx => Nat.lt_of_lt_of_le (hw x hx) hc.size, fun k o h => by simp [Eff.outs, lkH, lkO] at h, fun k o h => by simp [Eff.outs, lkH, lkO] at h, fun k o k' o' h => by simp [Eff.outs, lkH, lkO] at h⟩, fun k o h => by simp [Eff.outs, lkH, lkO] at h, fun k v h => .inl h⟩
theorem Post.new {rd : List Nat} {wr : Hp} {k : Nat} {o : O} {d : D} {v u : Value} {F : List Nat} (hS : HS (resH (rd ++ keys wr) H) g w) (hk : g.N k = none) (hwr : ∀ p ∈ wr, p.2 = none) (hkw : k ∉ keys wr) (hch : Chp (Eff.foot ⟨rd, wr, [(k, o)], d⟩ H g) w w')
  (hF : ∀ b ∈ F, (Eff.foot ⟨rd, wr, [(k, o)], d⟩ H g b ∨ w.heap.size ≤ b) ∧ b < w'.heap.size)
  (ho : ∀ g', Go (Eff.foot ⟨rd, wr, [(k, o)], d⟩ H g) g w g' w' → g'.N k = some u → g'.F k = F → OS g' w' k o ∧ Sm g' w' d v) : ∃ g', Post H ⟨rd, wr, [(k, o)], d⟩ g w v g' w' := by
 have hfx : ∀ x, Eff.foot ⟨rd, wr, [(k, o)], d⟩ H g x → g.X x := fun x ⟨j, h1, q, h2, h3⟩ => hS.own j q (by
  have : memN j (rd ++ keys wr) = true := memN_iff.2 (List.mem_append_right _ h1)
  simp only [resH, this]; exact h2) x h3
 have hg := Go.more (v := u) (F := F) (X := fun x => (g.X x ∧ ¬ Eff.foot ⟨rd, wr, [(k, o)], d⟩ H g x) ∨ x ∈ F) hk hch hfx (fun x hx => by
  rcases hx with hx | hx
  ·exact .inl hx.1
  ·exact (hF x hx).1.imp (hfx x) id) (fun x hx hn => .inl ⟨hx, hn⟩)
 obtain ⟨h1, h2⟩ := ho _ hg G.more_N G.more_F
 have e1 : ∀ j q, lkH (Eff.outs ⟨rd, wr, [(k, o)], d⟩) j = some q → j = k ∧ q = o := fun j q h => by
  have h := lkH_some.1 h
  simp only [Eff.outs, List.map_cons, List.map_nil] at h
  rw [lkO_app] at h
  cases hw : lkO wr j with
  | some q' =>
   rw [hw] at h
   cases h
   have key : ∀ (wr : Hp), (∀ p ∈ wr, p.2 = none) → lkO wr j ≠ some (some q) := by
    intro wr
    induction wr with
    | nil => intro _ h; cases h
    | cons p wr ih =>
     intro hp h
     obtain ⟨s, p2⟩ := p
     simp only [lkO] at h
     by_cases e : s = j
     ·subst e; simp at h; have := hp (s, p2) (List.mem_cons_self ..); simp at this; rw [this] at h; cases h
     ·rw [beqf e] at h; exact ih (fun p hp' => hp p (List.mem_cons_of_mem _ hp')) h
   exact absurd hw (key wr hwr)
  | none =>
   rw [hw] at h
   simp only [lkO] at h
   by_cases e : k = j
   ·subst e; simp at h; exact ⟨rfl, h.symm⟩
   ·rw [beqf e] at h; cases h
 refine ⟨_, hg, h2, ⟨fun x hx => ?_, fun j q h => ?_, fun j q h x hx => ?_, fun j q j' q' h h' hne => ?_⟩, fun j q h x hx => ?_, fun j u' h => ?_⟩
 ·rcases hx with hx | hx
  ·exact Nat.lt_of_lt_of_le (hS.wf x hx.1) hch.size
  ·exact (hF x hx).2
 ·obtain ⟨rfl, rfl⟩ := e1 j q h; exact h1
 ·obtain ⟨rfl, rfl⟩ := e1 j q h; rw [G.more_F] at hx; exact .inr hx
 ·exact absurd ((e1 j q h).1.trans (e1 j' q' h').1.symm) hne
 ·obtain ⟨rfl, rfl⟩ := e1 j q h; rw [G.more_F] at hx; exact (hF x hx).1
 ·by_cases e : k = j
  ·subst e; exact .inr (by simp [keys])
  ·simp only [G.more, beqf e] at h; exact .inl h
end
end Go.Sx
namespace Go.Sx
open Go.Mi Go.RowKit
variable [Dfr]
section
variable {P : Program} {n : Nat} {L : DL} {ds : Option Nat} {ty : TypeId} {pos : String} {af : Array Edge} {gu : Option (Nat × Bool)} {g : G} {w w' : World} {H : Nat → Option O}
theorem NewB.at {b : Nat} {c : Array Value} {t : TypeId} (h : NewB w w' b c t) : b = w.heap.size ∧ w'.heap[b]? = some (.cells c t (0, 0)) ∧ Chp (fun _ => False) w w' ∧ w'.heap.size = w.heap.size + 1 := by
 obtain ⟨rfl, rfl⟩ := h
 have h1 : (w.alloc (.cells c t)).heap = w.heap.push (.cells c t) := rfl
 refine ⟨rfl, by rw [h1]; simp, ⟨rfl, rfl, rfl, by rw [h1]; simp, fun b hb _ => by rw [h1, Array.getElem?_push_lt hb, Array.getElem?_eq_getElem hb]⟩, by rw [h1]; simp⟩
theorem new_ob {k b : Nat} {c : Array Value} {t : TypeId} {ds' : D} (hS : HS (resH [] H) g w) (hk : g.N k = none) (hn : NewB w w' b c t) (hs : sem g.X g.N w ds' false c.toList) (h1 : ∀ u ∈ c.toList, u.oneCell' = true) : ∃ g', Post H ⟨[], [], [(k, .ob t ds')], .cp k 0⟩ g w (vp b) g' w' := by
 obtain ⟨e1, e2, e3, e4⟩ := NewB.at hn
 refine Post.new (u := vp b) (F := [b]) (by simpa [keys] using hS) hk (by simp) (by simp [keys]) ⟨e3.os, e3.tape, e3.output, e3.size, fun x hx _ => e3.blk x hx id⟩ (fun x hx => by simp at hx; subst hx; exact ⟨.inr (by omega), by omega⟩) fun g' hg hN hF => ⟨⟨b, c, hN, hF, e2, sem_mv hg.goes _ _ _ hs, h1⟩, ⟨b, hN, rfl⟩⟩
def exAlloc (Z : Zt) (t : TypeId) (nb : Nat) : Option Eff := (lkZ Z t).map fun zs => ⟨[], [], [(nb, .ob t (chain zs))], .cp nb 0⟩
theorem exAlloc_ok {Z : Zt} {t : TypeId} {nb : Nat} {e : Eff} (hZ : ZOk P Z) (h : exAlloc Z t nb = some e) : EOk P n ⟨ds, .alloc t, ty, pos, af, gu⟩ L H e := by
 obtain ⟨zs, hz, rfl⟩ := Option.map_eq_some_iff.1 h
 intro ξ g w hS hH hn
 obtain ⟨z, hz1, hz2⟩ := lkZ_ok hZ hz
 obtain ⟨v1, v2⟩ := valsS_ok (X := g.X) (N := g.N) (w := w) hz2
 refine (ok_alloc hz1).mono fun v w' ⟨b, hv, hb⟩ => ?_
 subst hv
 exact new_ob hS (hn (nb, _) (List.mem_singleton.2 rfl)) hb (sem_chain.2 v1) v2
def exBox (L : DL) (t : TypeId) (x : Operand) (nb : Nat) : Option Eff := ((opD L x).bind toC).map fun cs => ⟨[], [], [(nb, .ob t (chain cs))], .cp nb 0⟩
theorem exBox_ok {t : TypeId} {x : Operand} {nb : Nat} {e : Eff} (h : exBox L t x nb = some e) : EOk P n ⟨ds, .box t x, ty, pos, af, gu⟩ L H e := by
 obtain ⟨cs, hc, rfl⟩ := Option.map_eq_some_iff.1 h
 obtain ⟨d, h1, h2⟩ := Option.bind_eq_some_iff.1 hc
 intro ξ g w hS hH hn
 obtain ⟨u, hu, hus⟩ := opD_ev hH h1
 obtain ⟨c1, c2⟩ := toC_ok hus h2
 refine (ok_box hu).mono fun v w' ⟨b, hv, hb⟩ => ?_
 subst hv
 exact new_ob hS (hn (nb, _) (List.mem_singleton.2 rfl)) hb (sem_chain.2 c1) c2
theorem semS_rep {X : Nat → Prop} {N : Nat → Option Value} {ss : List D} {l : List Value} (h : semS X N w ss l) : ∀ k, semS X N w (repS k ss) (List.replicate k l).flatten
 | 0 => rfl
 | k + 1 => by
  simp only [repS, List.replicate_succ, List.flatten_cons]
  exact semS_app.2 ⟨l, _, rfl, h, semS_rep h k⟩
theorem rowsC_ok {X : Nat → Prop} {N : Nat → Option Value} {e : List Fk} {m : Nat} (hm : 0 < m) : ∀ {k : Nat} {ss : List D} {rows : List (RT e)} {l : List Value}, semS X N w ss l → rowsC e m k ss = some rows → ∃ ls, l = ls.flatten ∧ Fa2 (rS X N w e) rows ls ∧ rows.length = k
 | 0, ss, rows, l, h, hr => by
  simp only [rowsC] at hr
  cases ss with
  | nil => cases hr; exact ⟨[], h, trivial, rfl⟩
  | cons d ss => cases hr
 | k + 1, ss, rows, l, h, hr => by
  simp only [rowsC] at hr
  split at hr
  ·rename_i r q h1 h2
   obtain ⟨rs, h3, rfl⟩ := Option.map_eq_some_iff.1 hr
   obtain ⟨es, h4, h5⟩ := Option.bind_eq_some_iff.1 h1
   obtain ⟨k1, k2⟩ := getS_ok h h4
   obtain ⟨k3, k4⟩ := dropS_ok h h2
   obtain ⟨ls, k5, k6, k7⟩ := rowsC_ok hm k3 h3
   refine ⟨l.take m :: ls, ?_, ⟨by simpa using toR_ok k1 h5, k6⟩, by simp [k7]⟩
   rw [List.flatten_cons, ← k5, List.take_append_drop]
  ·cases hr
abbrev Kt := List (TypeId × List Fk)
def lkK : Kt → TypeId → Option (List Fk)
 | [], _ => none
 | (s, v) :: r, t => bif Nat.beq s t then some v else lkK r t
def elemOf (P : Program) (t : TypeId) : Option TypeId := match P.underlying t with
 | some (.slice e) => some e
 | _ => none
def sizeOfT (P : Program) (t : TypeId) : Option Nat := (P.info? t).map (·.size)
structure Bs where
 te : TypeId
 e : List Fk
 rows : List (RT e)
def exBs (P : Program) (Z : Zt) (K : Kt) (L : DL) (t : TypeId) (len : Nat) (ps : List (Nat × Operand)) : Option Bs := match elemOf P t with
 | some te => (match sizeOfT P te, lkZ Z te, lkK K te, partsD L ps with
  | some m, some zs, some e, some qs => bif Nat.blt 0 m && Nat.ble (len * m) 16777216 && Nat.beq e.length m && Nat.beq (szS zs) m then
    ((fillS (fun i => some (i * m, m)) (repS len zs) qs).bind (rowsC e m len)).map fun rows => ⟨te, e, rows⟩ else none
  | _, _, _, _ => none)
 | none => none
theorem range_map_mod {zs : List Value} {len m : Nat} (hz : zs.length = m) : ((Array.range (len * m)).map (fun i => zs.toArray[i % zs.toArray.size]!)).toList = (List.replicate len zs).flatten := by
 subst hz
 apply List.ext_getElem?
 intro i
 by_cases hi : i < len * zs.length
 ·have h0 : 0 < zs.length := by
   rcases Nat.eq_zero_or_pos zs.length with h | h
   ·rw [h] at hi; simp at hi
   ·exact h
  have hmod := Nat.mod_lt i h0
  have hr : ∀ (len : Nat) (i : Nat), i < len * zs.length → ((List.replicate len zs).flatten)[i]? = zs[i % zs.length]? := by
   intro len
   induction len with
   | zero => intro i hi; simp at hi
   | succ k ih =>
    intro i hi
    rw [List.replicate_succ, List.flatten_cons, List.getElem?_append]
    split
    ·rename_i h; rw [Nat.mod_eq_of_lt h]
    ·rename_i h
     rw [Nat.succ_mul] at hi
     rw [ih (i - zs.length) (by omega)]
     congr 1
     exact (Nat.mod_eq_sub_mod (by omega)).symm
  rw [hr len i hi]
  simp [hi, hmod]
 ·have h1 : ((Array.range (len * zs.length)).map (fun i => zs.toArray[i % zs.toArray.size]!)).toList.length = len * zs.length := by simp
  have h2 : (List.replicate len zs).flatten.length = len * zs.length := by simp
  rw [List.getElem?_eq_none (by rw [h1]; exact Nat.le_of_not_lt hi), List.getElem?_eq_none (by rw [h2]; exact Nat.le_of_not_lt hi)]
theorem exBs_ok {Z : Zt} {K : Kt} {t : TypeId} {len : Nat} {ps : Array (Nat × Operand)} {B : Bs} {ξ : Nat → Value} (hZ : ZOk P Z) (h : exBs P Z K L t len ps.toList = some B) (hH : Hold L ξ g w) :
  Ok1 P ⟨ds, .buildSlice t len ps, ty, pos, af, gu⟩ n (exL L ξ) w fun v w' => ∃ b c ls, v = vS b 0 len len ∧ NewB w w' b c B.te ∧ c.toList = ls.flatten ∧ Fa2 (rS g.X g.N w B.e) B.rows ls ∧ B.rows.length = len ∧ len ≤ maxLen := by
 unfold exBs at h
 split at h
 ·rename_i te he
  split at h
  ·rename_i m zs e qs hm hz hk hq
   cases hc : Nat.blt 0 m && Nat.ble (len * m) 16777216 && Nat.beq e.length m && Nat.beq (szS zs) m with
   | false => rw [hc] at h; cases h
   | true =>
    rw [hc] at h
    simp only [Bool.and_eq_true, Nat.blt_eq] at hc
    obtain ⟨⟨⟨c1, c3⟩, c4⟩, c5⟩ := hc
    have c3 := Nat.le_of_ble_eq_true c3
    have c5 := Nat.eq_of_beq_eq_true c5
    obtain ⟨rows, h1, rfl⟩ := Option.map_eq_some_iff.1 h
    obtain ⟨ss, h2, h3⟩ := Option.bind_eq_some_iff.1 h1
    obtain ⟨z, hz1, hz2⟩ := lkZ_ok hZ hz
    obtain ⟨v1, v2⟩ := valsS_ok (X := g.X) (N := g.N) (w := w) hz2
    obtain ⟨vs, k1, k2⟩ := partsD_ev hH hq
    obtain ⟨inf, hi, hzr⟩ := Option.bind_eq_some_iff.1 hz1
    have hms : inf.size = m := by unfold sizeOfT at hm; rw [hi] at hm; simpa using hm
    have hu : P.underlying t = some (.slice te) := by
     unfold elemOf at he
     split at he
     ·rename_i e' hu; cases he; exact hu
     ·cases he
    have hzl : z.cells.toList.length = m := by rw [szS_len v1, c5]
    have e0 : ((Array.range (len * m)).map (z.cells[· % z.cells.size]!)).toList = (List.replicate len z.cells.toList).flatten := by
     have := range_map_mod (len := len) hzl
     simpa using this
    obtain ⟨c', q1, q2, q3, q4⟩ := fillS_ok (c := (Array.range (len * m)).map (z.cells[· % z.cells.size]!)) k2 (by rw [e0]; exact semS_rep v1 len) (fun u hu => by
     rw [e0] at hu
     obtain ⟨l, hl, hu⟩ := List.mem_flatten.1 hu
     rw [List.mem_replicate] at hl
     rw [hl.2] at hu
     exact v2 u hu) h2
    obtain ⟨ls, p1, p2, p3⟩ := rowsC_ok c1 q2 h3
    have hd : Det P ⟨ds, .buildSlice t len ps, ty, pos, af, gu⟩ n (exL L ξ) w (vS w.heap.size 0 len len) (w.alloc (.cells c' te)) := Det.of_run fun a hF => by
     have e1 : (ps.map fun p => (p.1, a.eval p.2)).toList = vs := by rw [Array.toList_map]; exact k1 a n hF
     have h1' : ¬ len * m > 2 ^ 24 := by omega
     rcases Nat.eq_zero_or_pos len with hl0 | c2
     ·subst hl0
      have em : ∀ f : Nat → Value, Array.map f (Array.range 0) = #[] := fun f => by simp
      have q1' := q1
      rw [Nat.zero_mul, em] at q1'
      simp only [execOp, Instr.buildSlice, Sem.run_bind, run_underlying' hu, Result.andThen_ok, sizeOf, typeInfo, zeroValue]
      simp [hi, hms]
      simp only [Array.toList_map] at e1
      rw [e1, em, q1']
      simp [newRow]
     have hp := Nat.mul_pos c2 c1
     have h0 : ¬ len * m = 0 := by omega
     simp only [execOp, Instr.buildSlice, Sem.run_bind, run_underlying' hu, Result.andThen_ok, sizeOf, typeInfo, zeroValue]
     simp [hi, hms, hzr, h1', h0]
     simp only [Array.toList_map] at e1
     rw [e1, q1]
     simp [newRow]
    refine hd.mono fun v w' ⟨r1, r2⟩ => ⟨_, c', ls, r1, ⟨rfl, r2⟩, p1, p2, p3, ?_⟩
    have : len ≤ len * m := Nat.le_mul_of_pos_right len c1
    simp only [maxLen]
    omega
  ·cases h
 ·cases h
def exBsI (B : Bs) : Eff := ⟨[], [], [], .ls true B.e B.rows⟩
def exBsO (B : Bs) (nb : Nat) : Eff := ⟨[], [], [(nb, .sl B.te B.e B.rows)], .sk nb⟩
theorem exBsI_ok {Z : Zt} {K : Kt} {t : TypeId} {len : Nat} {ps : Array (Nat × Operand)} {B : Bs} (hZ : ZOk P Z) (h : exBs P Z K L t len ps.toList = some B) (hm : sizeOfT P B.te = some B.e.length) : EOk P n ⟨ds, .buildSlice t len ps, ty, pos, af, gu⟩ L H (exBsI B) := by
 intro ξ g w hS hH hn
 refine (exBs_ok hZ h hH).mono fun v w' ⟨b, c, ls, hv, hb, h1, h2, h3, h4⟩ => ⟨g, ?_⟩
 subst hv
 obtain ⟨e1, e2, e3, e4⟩ := NewB.at hb
 refine Post.quiet hS.wf e3 ⟨_, ls, rfl, ⟨by rw [h3]; exact h4, ?_, .inr ⟨b, 0, len, by rw [h3], by rw [h3]; exact Nat.le_refl _, h4, fun hx => ?_, by omega, ?_⟩⟩, h2.mono fun x l hr => ?_⟩
 ·have := h2.row
  have hl : ls.length = B.rows.length := h2.len.symm
  rw [← hl]
  clear h2 h1 hl
  induction ls with
  | nil => simp
  | cons l ls ih =>
   rw [List.flatten_cons, List.length_append, List.length_cons, Nat.succ_mul, ih fun l hl => this l (List.mem_cons_of_mem _ hl), this l (List.mem_cons_self ..)]
   omega
 ·have := hS.wf b hx; omega
 ·rw [← h1]; exact At.of_blk e2
 ·exact rS_mv (S := fun _ => False) ⟨e3, fun _ h => h.elim, fun _ h => .inl h, fun _ _ h => h⟩ _ _ _ hr
theorem flat_len {α : Type} {m : Nat} : ∀ {ls : List (List α)}, (∀ l ∈ ls, l.length = m) → ls.flatten.length = ls.length * m
 | [], _ => by simp
 | l :: ls, h => by
  rw [List.flatten_cons, List.length_append, List.length_cons, Nat.succ_mul, flat_len fun l hl => h l (List.mem_cons_of_mem _ hl), h l (List.mem_cons_self ..)]
  omega
theorem new_sl {k b c te : Nat} {wr : Hp} {rd : List Nat} {cc : Array Value} {e : List Fk} {rows : List (RT e)} {ls : List (List Value)} (hS : HS (resH rd H) g w) (hk : g.N k = none) (hn : NewB w w' b cc te) (h1 : cc.toList = ls.flatten) (h2 : Fa2 (rS g.X g.N w e) rows ls) (hm : rows.length ≤ maxLen) :
  ∃ g', Post H ⟨rd, [], [(k, .sl te e rows)], .sk k⟩ g w (vS b 0 rows.length rows.length) g' w' := by
 obtain ⟨e1, e2, e3, e4⟩ := NewB.at hn
 have hlen : cc.toList.length = rows.length * e.length := by rw [h1, flat_len h2.row, h2.len]
 have hsz : cc.size = rows.length * e.length := hlen
 refine Post.new (u := vS b 0 rows.length rows.length) (F := [b]) (by simpa [keys] using hS) hk (by simp) (by simp [keys]) ⟨e3.os, e3.tape, e3.output, e3.size, fun x hx _ => e3.blk x hx id⟩ (fun x hx => by simp at hx; subst hx; exact ⟨.inr (by omega), by omega⟩) fun g' hg hN hF => ⟨⟨_, ls, hN, hF, ⟨by rw [← h1]; exact hlen, .inr ⟨b, rows.length, cc, rfl, Nat.zero_le _, e2, Nat.le_refl _, hm, hsz, by rw [← hlen, List.take_length, h1]⟩⟩, hm, h2.mono (rS_mv hg.goes e), rows_one h2⟩, ⟨_, hN, rfl, rfl⟩⟩
theorem exBsO_ok {Z : Zt} {K : Kt} {t : TypeId} {len : Nat} {ps : Array (Nat × Operand)} {B : Bs} {nb : Nat} (hZ : ZOk P Z) (h : exBs P Z K L t len ps.toList = some B) : EOk P n ⟨ds, .buildSlice t len ps, ty, pos, af, gu⟩ L H (exBsO B nb) := by
 intro ξ g w hS hH hn
 refine (exBs_ok hZ h hH).mono fun v w' ⟨b, c, ls, hv, hb, h1, h2, h3, h4⟩ => ?_
 subst hv
 have hS' : HS (resH [] H) g w := hS
 have := new_sl (k := nb) (rd := []) (c := 0) (wr := []) hS' (hn (nb, _) (List.mem_singleton.2 rfl)) hb h1 h2 (by rw [h3]; exact h4)
 rw [h3] at this
 exact this
def exMk (P : Program) (K : Kt) (L : DL) (t : TypeId) (x y : Operand) (nb : Nat) : Option (Eff × List Prop) := match elemOf P t, opD L x, opD L y with
 | some te, some (.v (.int .i64 i)), some (.v (.int .i64 j)) => (match P.info? te, lkK K te with
  | some inf, some [a] => (match inf.zero with
   | some z => bif Nat.beq inf.size 1 && z.oneCell' then (toF a (.v z)).map fun q => (⟨[], [], [(nb, .sl te [a] (List.replicate i.toNat q))], .sk nb⟩, [i = j, 0 ≤ i, inf.bytes * i.toNat ≤ 281474976710656, i ≤ 9223372036854775807]) else none
   | none => none)
  | _, _ => none)
 | _, _, _ => none
theorem elemOf_of {t te : TypeId} (h : elemOf P t = some te) : P.underlying t = some (.slice te) := by
 unfold elemOf at h
 split at h
 ·rename_i e' hu; cases h; exact hu
 ·cases h
theorem exMk_ok {K : Kt} {t : TypeId} {x y : Operand} {nb : Nat} {e : Eff} {ps : List Prop} (h : exMk P K L t x y nb = some (e, ps)) (hp : AllP ps) (hxy : y = x) : EOk P n ⟨ds, .makeSlice t x y, ty, pos, af, gu⟩ L H e := by
 subst hxy
 unfold exMk at h
 split at h
 ·rename_i te i j he hx hy
  split at h
  ·rename_i inf a hi hk
   split at h
   ·rename_i z hz
    cases hb : Nat.beq inf.size 1 && z.oneCell' with
    | false => rw [hb] at h; cases h
    | true =>
     rw [hb] at h
     rw [Bool.and_eq_true] at hb
     have hs1 := Nat.eq_of_beq_eq_true hb.1
     simp only [cond_true] at h
     obtain ⟨q, hq, h2⟩ := Option.map_eq_some_iff.1 h
     simp only [Prod.mk.injEq] at h2
     obtain ⟨rfl, rfl⟩ := h2
     obtain ⟨_, p2, p3, p4, _⟩ := hp
     intro ξ g w hS hH hn
     have hS' : HS (resH [] H) g w := hS
     obtain ⟨m, rfl⟩ := Int.eq_ofNat_of_zero_le p2
     have hm : m < 2 ^ 63 := by omega
     simp only [Int.toNat_natCast] at p3
     refine (ok_make (m := m) (bytes := inf.bytes) (z := z) (elemOf_of he) (by rw [hi, Option.map_some, hs1, hz]) (opD_v hH hx) hb.2 (by omega) hm).mono fun v w' ⟨b, hv, hbn⟩ => ?_
     subst hv
     have hf : fS g.X g.N w a q z := (toF_ok (X := g.X) (N := g.N) (w := w) (m := true) (v := z) (d := .v z) (show [z] = [z] from rfl) hq).1
     have hfl : ∀ k : Nat, Fa2 (rS g.X g.N w [a]) (List.replicate k q) (List.replicate k [z]) := by
      intro k
      induction k with
      | zero => trivial
      | succ k ih => exact ⟨⟨z, rfl, hf⟩, ih⟩
     have hfl2 : ∀ k : Nat, ((Array.range k).map fun _ => z).toList = (List.replicate k [z]).flatten := by
      intro k
      simp [List.map_const']
     have hl : (List.replicate m q).length = m := by simp
     have := new_sl (k := nb) (rd := []) (c := 0) (wr := []) (te := te) (e := [a]) (rows := List.replicate m q) hS' (hn (nb, _) (List.mem_singleton.2 rfl)) hbn (hfl2 m) (hfl m) (by simp only [List.length_replicate, maxLen]; omega)
     rw [List.length_replicate] at this
     exact this
   ·cases h
  ·cases h
 ·cases h
end
end Go.Sx
namespace Go.Sx
open Go.Mi Go.RowKit
variable [Dfr]
inductive Src (g : G) (w : World) (e : List Fk) (xs : List (RT e)) (v : Value) : Prop where
 | nil (h1 : v = vN) (h2 : xs = [])
 | at (b o c : Nat) (ls : List (List Value)) (h1 : v = vS b o xs.length c) (h2 : At w b o ls.flatten) (h3 : Fa2 (rS g.X g.N w e) xs ls)
structure Sx where
 e : List Fk
 xs : List (RT e)
 rd : List Nat
def srcD (H : Hp) : D → Option Sx
 | .ls _ e xs => some ⟨e, xs, []⟩
 | .sk k => (match lkH H k with
  | some (.sl _ e xs) => some ⟨e, xs, [k]⟩
  | _ => none)
 | _ => none
section
variable {P : Program} {n : Nat} {L : DL} {ds : Option Nat} {ty : TypeId} {pos : String} {af : Array Edge} {gu : Option (Nat × Bool)} {g : G} {w w' : World} {H : Hp}
theorem srcD_ok {d : D} {s : Sx} {v : Value} (hos : ∀ k o, k ∈ s.rd → lkH H k = some o → OS g w k o) (h : srcD H d = some s) (hd : Sm g w d v) : Src g w s.e s.xs v := by
 unfold srcD at h
 split at h
 ·rename_i nn e xs
  cases h
  obtain ⟨u, ls, h1, h2, h3⟩ := hd
  cases (List.cons.inj h1).1
  rcases h2.shape with ⟨rfl, h4, _⟩ | ⟨b, o, c, rfl, _, h4⟩
  ·exact .nil rfl (List.eq_nil_of_length_eq_zero h4)
  ·exact .at b o c ls rfl h4 h3
 ·rename_i k
  split at h
  ·rename_i te e xs hk
   cases h
   obtain ⟨u, h1, h2, _⟩ := hd
   cases (List.cons.inj h2).1
   obtain ⟨v', ls, k1, k2, k3, k4, k5, k6⟩ := hos k _ (by simp) hk
   rw [k1] at h1
   cases h1
   rcases k3.at with ⟨rfl, h4, _⟩ | ⟨b, cap, rfl, _, h4⟩
   ·exact .nil rfl (List.eq_nil_of_length_eq_zero h4)
   ·exact .at b 0 cap ls rfl h4 k5
  ·cases h
 ·cases h
theorem ok_app {s x : Operand} {t te : TypeId} {inf : TypeInfo} {z v u : Value} {e : List Fk} {xs ys : List (RT e)} {ls : List (List Value)} {Lv : List (Nat × Value)} (ht : P.underlying t = some (.slice te)) (hi : P.info? te = some inf) (hz : inf.zero = some z) (hm : inf.size = e.length) (hzs : z.cells.size = e.length) (hm0 : 0 < e.length)
  (hs : ev Lv s = some v) (hx : ev Lv x = some u) (hown : Own w 0 te e.length v xs.length ls.flatten) (hF : Fa2 (rS g.X g.N w e) xs ls) (hu : Src g w e ys u) (h63 : xs.length + ys.length ≤ maxLen) (hby : (xs.length + ys.length) * inf.bytes ≤ 140737488355328) :
  Ok1 P ⟨ds, .call ⟨.builtin .append, #[s, x], #[t, t]⟩, ty, pos, af, gu⟩ n Lv w fun v' w' => ∃ ms, Own w' 0 te e.length v' (xs ++ ys).length ms.flatten ∧ Fa2 (rS g.X g.N w e) (xs ++ ys) ms ∧ Ch (oblk v) w w' ∧ (oblk v' = oblk v ∨ oblk v' = [w.heap.size]) := by
 cases hu with
 | nil h1 h2 =>
  subst h1; subst h2
  have hd : Det P ⟨ds, .call ⟨.builtin .append, #[s, x], #[t, t]⟩, ty, pos, af, gu⟩ n Lv w v w := Det.of_run fun a hF => by
   have hr : (Builtin.append_ #[t, t] ty #[v, vN]).run P w = .ok v w := by
    rcases hown.2 with ⟨rfl, h0⟩ | ⟨b, cap, cur, rfl, _, hb, hc, hc2, hcs, hct⟩
    ·simp [Builtin.append_, run_underlying' ht, sizeOf, typeInfo, hi, Builtin.lenOf, Builtin.firstCells]
    ·have h5 : (storeCells ((⟨b, 0, none⟩ : Addr).add (xs.length * inf.size)) []).run P w = .ok () w := rfl
     simp [Builtin.append_, run_underlying' ht, sizeOf, typeInfo, hi, Builtin.lenOf, Builtin.firstCells, hc, h5]
   simp [execOp, hF.eval hs, hF.eval hx, resolve, invoke, builtin, hr]
  refine hd.mono fun v' w' ⟨e1, e2⟩ => ?_
  subst e1; subst e2
  exact ⟨ls, by simpa using hown, by simpa using hF, Ch.refl _ _, .inl rfl⟩
 | «at» b o c ms h1 h2 h3 =>
  subst h1
  have hml : ms.flatten.length = ys.length * e.length := by rw [flat_len h3.row, h3.len]
  refine (ok_append ht hi hz hm rfl hzs hm0 hs hx hown hml h2 (rows_one h3) h63 hby (Nat.zero_le _)).mono fun v' w' ⟨k1, k2, k3⟩ => ⟨ls ++ ms, ?_, hF.append h3, k2, k3⟩
  rw [List.length_append, List.flatten_append]
  exact k1
structure Ap where
 te : TypeId
 e : List Fk
 xs : List (RT e)
 ys : List (RT e)
 wr : Hp
 rd : List Nat
def castR (a b : List Fk) (xs : List (RT a)) : Option (List (RT b)) := if h : a = b then some (h ▸ xs) else none
def zeroSz (inf : TypeInfo) (m : Nat) : Bool := match inf.zero with
 | some z => Nat.beq z.cells.size m
 | none => false
def exAp (P : Program) (K : Kt) (L : DL) (H : Hp) (t : TypeId) (s x : Operand) : Option Ap := match elemOf P t, opD L s with
 | some te, some (.v (.slice none 0 0)) => (match lkK K te, (opD L x).bind (srcD H) with
  | some e, some q => (castR q.e e q.xs).map fun ys => ⟨te, e, [], ys, [], q.rd⟩
  | _, _ => none)
 | some te, some (.sk k) => (match lkH H k, opD L x with
  | some (.sl te' e xs), some (.v (.slice none 0 0)) => bif Nat.beq te te' then some ⟨te, e, xs, [], [(k, none)], []⟩ else none
  | some (.sl te' e xs), some d => (match srcD H d with
   | some q => bif Nat.beq te te' && !(memN k q.rd) then (castR q.e e q.xs).map fun ys => ⟨te, e, xs, ys, [(k, none)], q.rd⟩ else none
   | none => none)
  | _, _ => none)
 | _, _ => none
def exApE (P : Program) (A : Ap) (nb : Nat) : Option (Eff × List Prop) := match P.info? A.te with
 | some inf => bif Nat.beq inf.size A.e.length && zeroSz inf A.e.length && Nat.blt 0 A.e.length then some (⟨A.rd, A.wr, [(nb, .sl A.te A.e (A.xs ++ A.ys))], .sk nb⟩, [A.xs.length + A.ys.length ≤ 9223372036854775807, (A.xs.length + A.ys.length) * inf.bytes ≤ 140737488355328]) else none
 | none => none
theorem castR_eq {a b : List Fk} {xs : List (RT a)} {ys : List (RT b)} (h : castR a b xs = some ys) : ∃ e : a = b, ys = e ▸ xs := by
 unfold castR at h
 split at h
 ·rename_i e; simp only [Option.some.injEq] at h; exact ⟨e, h.symm⟩
 ·cases h
theorem Src.cast {a b : List Fk} {xs : List (RT a)} {ys : List (RT b)} {v : Value} (h : Src g w a xs v) (hc : castR a b xs = some ys) : Src g w b ys v := by
 obtain ⟨rfl, rfl⟩ := castR_eq hc
 exact h
structure ApIs (H : Hp) (g : G) (w : World) (A : Ap) (v u : Value) : Prop where
 own : ∃ ls, Own w 0 A.te A.e.length v A.xs.length ls.flatten ∧ Fa2 (rS g.X g.N w A.e) A.xs ls
 src : Src g w A.e A.ys u
 wr : (A.wr = [] ∧ oblk v = []) ∨ ∃ k o, A.wr = [(k, none)] ∧ lkH H k = some o ∧ g.F k = oblk v
theorem exAp_ok {K : Kt} {t : TypeId} {s x : Operand} {A : Ap} {ξ : Nat → Value} (h : exAp P K L H t s x = some A) (hS : HS (resH (A.rd ++ keys A.wr) (lkH H)) g w) (hH : Hold L ξ g w) : P.underlying t = some (.slice A.te) ∧ ∃ v u, ev (exL L ξ) s = some v ∧ ev (exL L ξ) x = some u ∧ ApIs H g w A v u := by
 have obj : ∀ k o, k ∈ A.rd ++ keys A.wr → lkH H k = some o → OS g w k o := fun k o hk ho => hS.os k o (by simp only [resH, memN_iff.2 hk]; exact ho)
 unfold exAp at h
 split at h
 ·rename_i te he hs
  split at h
  ·rename_i e q hk hx
   obtain ⟨ys, hc, rfl⟩ := Option.map_eq_some_iff.1 h
   obtain ⟨d, hx1, hx2⟩ := Option.bind_eq_some_iff.1 hx
   obtain ⟨u, hu, hus⟩ := opD_ev hH hx1
   have hsr := srcD_ok (fun k o hk ho => obj k o (List.mem_append_left _ hk) ho) hx2 hus
   exact ⟨elemOf_of he, vN, u, opD_v hH hs, hu, ⟨[], ⟨by simp, .inl ⟨rfl, rfl⟩⟩, trivial⟩, hsr.cast hc, .inl ⟨rfl, rfl⟩⟩
  ·cases h
 ·rename_i te k he hs
  obtain ⟨v, hv, v', h1, h2, _⟩ := opD_ev hH hs
  cases (List.cons.inj h2).1
  split at h
  ·rename_i te' e xs hk hx
   cases hb : Nat.beq te te' with
   | false => rw [hb] at h; cases h
   | true =>
    rw [hb] at h
    have := Nat.eq_of_beq_eq_true hb
    subst this
    cases h
    obtain ⟨v2, ls, k1, k2, k3, k4, k5, k6⟩ := obj k _ (by simp [keys]) hk
    rw [h1] at k1
    cases k1
    exact ⟨elemOf_of he, v, vN, hv, opD_v hH hx, ⟨ls, k3, k5⟩, .nil rfl rfl, .inr ⟨k, _, rfl, hk, k2⟩⟩
  ·rename_i te' e xs d _ hk hx
   split at h
   ·rename_i q hq
    cases hb : Nat.beq te te' && !(memN k q.rd) with
    | false => rw [hb] at h; cases h
    | true =>
     rw [hb] at h
     rw [Bool.and_eq_true] at hb
     have := Nat.eq_of_beq_eq_true hb.1
     subst this
     obtain ⟨ys, hc, rfl⟩ := Option.map_eq_some_iff.1 h
     obtain ⟨u, hu, hus⟩ := opD_ev hH hx
     have hsr := srcD_ok (fun k o hk ho => obj k o (List.mem_append_left _ hk) ho) hq hus
     obtain ⟨v2, ls, k1, k2, k3, k4, k5, k6⟩ := obj k _ (by simp [keys]) hk
     rw [h1] at k1
     cases k1
     exact ⟨elemOf_of he, v, u, hv, hu, ⟨ls, k3, k5⟩, hsr.cast hc, .inr ⟨k, _, rfl, hk, k2⟩⟩
   ·cases h
  ·cases h
 ·cases h
theorem exApE_ok {K : Kt} {t : TypeId} {s x : Operand} {A : Ap} {nb : Nat} {e : Eff} {ps : List Prop} (h : exAp P K L H t s x = some A) (h2 : exApE P A nb = some (e, ps)) (hp : AllP ps) : EOk P n ⟨ds, .call ⟨.builtin .append, #[s, x], #[t, t]⟩, ty, pos, af, gu⟩ L (lkH H) e := by
 unfold exApE at h2
 split at h2
 ·rename_i inf hi
  cases hb : Nat.beq inf.size A.e.length && zeroSz inf A.e.length && Nat.blt 0 A.e.length with
  | false => rw [hb] at h2; cases h2
  | true =>
   rw [hb] at h2
   simp only [Bool.and_eq_true, Nat.blt_eq] at hb
   obtain ⟨⟨b1, b2⟩, b3⟩ := hb
   have b1 := Nat.eq_of_beq_eq_true b1
   simp only [cond_true, Option.some.injEq, Prod.mk.injEq] at h2
   obtain ⟨rfl, rfl⟩ := h2
   obtain ⟨p1, p2, _⟩ := hp
   unfold zeroSz at b2
   split at b2
   ·rename_i z hz
    have b2 := Nat.eq_of_beq_eq_true b2
    intro ξ g w hS hH hn
    have hS' : HS (resH (A.rd ++ keys A.wr) (lkH H)) g w := hS
    obtain ⟨hu, v, u, hv, hu2, hA⟩ := exAp_ok h hS' hH
    obtain ⟨ls, o1, o2⟩ := hA.own
    refine (ok_app hu hi hz b1 b2 b3 hv hu2 o1 o2 hA.src (by simp only [maxLen]; omega) p2).mono fun v' w' ⟨ms, q1, q2, q3, q4⟩ => ?_
    have hft : ∀ b ∈ oblk v, Eff.foot ⟨A.rd, A.wr, [(nb, .sl A.te A.e (A.xs ++ A.ys))], .sk nb⟩ (lkH H) g b := fun b hb => by
     rcases hA.wr with ⟨_, h0⟩ | ⟨k, o, h1, h2, h3⟩
     ·rw [h0] at hb; simp at hb
     ·exact ⟨k, by simp [h1, keys], o, h2, by rw [h3]; exact hb⟩
    have hkw : nb ∉ keys A.wr := fun hk => by
     rcases hA.wr with ⟨h0, _⟩ | ⟨k, o, h1, h2, h3⟩
     ·rw [h0] at hk; simp [keys] at hk
     ·rw [h1] at hk
      simp only [keys, List.map_cons, List.map_nil, List.mem_singleton] at hk
      subst hk
      have hos : OS g w nb o := hS'.os nb o (by simp only [resH, memN_iff.2 (show nb ∈ A.rd ++ keys A.wr by simp [h1, keys])]; exact h2)
      have hN : g.N nb = none := hn (nb, _) (List.mem_singleton.2 rfl)
      cases o with
      | ob ty ds => obtain ⟨b, c, k1, _⟩ := hos; rw [hN] at k1; cases k1
      | sl ty e xs => obtain ⟨b, c, k1, _⟩ := hos; rw [hN] at k1; cases k1
    refine Post.new (u := v') (F := oblk v') hS' (hn (nb, _) (List.mem_singleton.2 rfl)) (fun p hp => ?_) hkw ⟨q3.os, q3.tape, q3.output, q3.size, fun b hb hnf => q3.blk b hb fun hm => hnf (hft b hm)⟩ (fun b hb => ⟨?_, (q1.lt b hb).2⟩) fun g' hg hN hF => ⟨⟨v', ms, hN, hF, q1, ?_, q2.mono (rS_mv hg.goes A.e), rows_one q2⟩, ⟨v', hN, rfl, ?_⟩⟩
    ·rcases hA.wr with ⟨h0, _⟩ | ⟨k, o, h1, _⟩
     ·rw [h0] at hp; simp at hp
     ·rw [h1] at hp; simp at hp; rw [hp]
    ·rcases q4 with q4 | q4
     ·rw [q4] at hb; exact .inl (hft b hb)
     ·rw [q4] at hb; simp at hb; exact .inr (by omega)
    ·simp only [maxLen, List.length_append]; omega
    ·rcases q1.at with ⟨rfl, _⟩ | ⟨b, cap, rfl, _⟩ <;> rfl
   ·cases b2
 ·cases h2
end
end Go.Sx
namespace Go.Sx
open Go.Mi Go.RowKit
variable [Dfr]
def bndD (L : DL) : Option Operand → Option (Option Int)
 | none => some none
 | some x => match opD L x with
  | some (.v (.int _ i)) => some (some i)
  | _ => none
def bl (o : Option Int) (d : Nat) : Nat := match o with
 | some i => i.toNat
 | none => d
def nnI : Option Int → Prop
 | some i => 0 ≤ i
 | none => True
def bndP (lo hi mx : Option Int) (n c : Nat) : Prop := nnI lo ∧ nnI hi ∧ nnI mx ∧ (mx.isSome = true → hi.isSome = true) ∧ bl lo 0 ≤ bl hi n ∧ bl hi n ≤ bl mx c ∧ bl mx c ≤ c
def cutL {α : Type} (lo hi : Option Int) (xs : List α) : List α := match lo, hi with
 | none, none => xs
 | none, some h => xs.take h.toNat
 | some l, none => xs.drop l.toNat
 | some l, some h => (xs.take h.toNat).drop l.toNat
theorem cutL_eq {α : Type} (lo hi : Option Int) (xs : List α) : cutL lo hi xs = (xs.take (bl hi xs.length)).drop (bl lo 0) := by
 unfold cutL bl
 cases lo <;> cases hi <;> simp
section
variable {P : Program} {n : Nat} {L : DL} {ds : Option Nat} {ty : TypeId} {pos : String} {af : Array Edge} {gu : Option (Nat × Bool)} {g : G} {w w' : World}
structure BndV (a : Act) (x : Option Operand) (i : Option Int) : Prop where
 h : (x = none ∧ i = none) ∨ ∃ y k j, x = some y ∧ i = some j ∧ a.eval y = .int k j
theorem bndD_ev {ξ : Nat → Value} {x : Option Operand} {i : Option Int} (hH : Hold L ξ g w) (h : bndD L x = some i) : ∀ a nn, Frm a nn (exL L ξ) → BndV a x i := by
 intro a nn hF
 unfold bndD at h
 split at h
 ·cases h; exact ⟨.inl ⟨rfl, rfl⟩⟩
 ·rename_i y
  split at h
  ·rename_i k j hy
   cases h
   exact ⟨.inr ⟨y, k, j, rfl, rfl, hF.eval (opD_v hH hy)⟩⟩
  ·cases h
theorem run_bounds {a : Act} {sl : Bool} {xl xh xm : Option Operand} {lo hi mx : Option Int} {m c : Nat} (hl : BndV a xl lo) (hh : BndV a xh hi) (hm : BndV a xm mx) (h : bndP lo hi mx m c) : (Instr.sliceBounds sl m c (xl.map a.eval) (xh.map a.eval) (xm.map a.eval)).run P w = .ok (bl lo 0, bl hi m, bl mx c) w := by
 obtain ⟨n1, n2, n3, n4, n5, n6, n7⟩ := h
 rcases hm.h with ⟨rfl, rfl⟩ | ⟨ym, km, jm, rfl, rfl, hvm⟩ <;> rcases hh.h with ⟨rfl, rfl⟩ | ⟨yh, kh, jh, rfl, rfl, hvh⟩ <;> rcases hl.h with ⟨rfl, rfl⟩ | ⟨yl, kl, jl, rfl, rfl, hvl⟩ <;> simp only [nnI, bl] at n1 n2 n3 n5 n6 n7
 ·simp [Instr.sliceBounds, bl]
 ·obtain ⟨jl, rfl⟩ := Int.eq_ofNat_of_zero_le n1
  simp only [Int.toNat_natCast] at n5 n6 n7
  simp [Instr.sliceBounds, bl, hvl, Instr.sliceBound, asIntOf, n5]
 ·obtain ⟨jh, rfl⟩ := Int.eq_ofNat_of_zero_le n2
  simp only [Int.toNat_natCast] at n5 n6 n7
  simp [Instr.sliceBounds, bl, hvh, Instr.sliceBound, asIntOf, n6]
 ·obtain ⟨jh, rfl⟩ := Int.eq_ofNat_of_zero_le n2
  obtain ⟨jl, rfl⟩ := Int.eq_ofNat_of_zero_le n1
  simp only [Int.toNat_natCast] at n5 n6 n7
  simp [Instr.sliceBounds, bl, hvh, hvl, Instr.sliceBound, asIntOf, n6, n5]
 ·have := n4 rfl; cases this
 ·have := n4 rfl; cases this
 ·obtain ⟨jh, rfl⟩ := Int.eq_ofNat_of_zero_le n2
  obtain ⟨jm, rfl⟩ := Int.eq_ofNat_of_zero_le n3
  simp only [Int.toNat_natCast] at n5 n6 n7
  simp [Instr.sliceBounds, bl, hvh, hvm, Instr.sliceBound, asIntOf, n7, n6]
 ·obtain ⟨jh, rfl⟩ := Int.eq_ofNat_of_zero_le n2
  obtain ⟨jl, rfl⟩ := Int.eq_ofNat_of_zero_le n1
  obtain ⟨jm, rfl⟩ := Int.eq_ofNat_of_zero_le n3
  simp only [Int.toNat_natCast] at n5 n6 n7
  simp [Instr.sliceBounds, bl, hvh, hvl, hvm, Instr.sliceBound, asIntOf, n7, n6, n5]
theorem d_cut {x : Operand} {xl xh xm : Option Operand} {t te : TypeId} {lo hi mx : Option Int} {m len cap : Nat} {ad : Option Addr} {Lv : List (Nat × Value)} (ht : P.underlying t = some (.slice te)) (hs : (P.info? te).map (·.size) = some m) (hx : ev Lv x = some (.slice ad len cap))
  (hb : ∀ a, Frm a n Lv → BndV a xl lo ∧ BndV a xh hi ∧ BndV a xm mx) (h : bndP lo hi mx len cap) : Det P ⟨ds, .slice t x xl xh xm, ty, pos, af, gu⟩ n Lv w (.slice (if bl mx cap = bl lo 0 then ad else ad.map (·.add (bl lo 0 * m))) (bl hi len - bl lo 0) (bl mx cap - bl lo 0)) w :=
 Det.of_run fun a hF => by
  obtain ⟨h1, h2, h3⟩ := hb a hF
  obtain ⟨inf, hi', hz⟩ := Option.map_eq_some_iff.1 hs
  have hr := run_bounds (P := P) (w := w) (sl := true) h1 h2 h3 h
  have hsz : (sizeOf te).run P w = .ok m w := by simp [sizeOf, typeInfo, hi', hz]
  simp only [execOp, hF.eval hx, Instr.sliceAt, Sem.run_bind, run_underlying' ht, Result.andThen_ok, Instr.slice, hr, hsz]
  rfl
theorem d_cutA {x : Operand} {xl xh xm : Option Operand} {t te : TypeId} {lo hi mx : Option Int} {m len b o : Nat} {Lv : List (Nat × Value)} (ht : P.underlying t = some (.array len te)) (hs : (P.info? te).map (·.size) = some m) (hx : ev Lv x = some (vP b o))
  (hb : ∀ a, Frm a n Lv → BndV a xl lo ∧ BndV a xh hi ∧ BndV a xm mx) (h : bndP lo hi mx len len) : Det P ⟨ds, .slice t x xl xh xm, ty, pos, af, gu⟩ n Lv w (.slice (some (if bl mx len = bl lo 0 then ⟨b, o, none⟩ else ⟨b, o + bl lo 0 * m, none⟩)) (bl hi len - bl lo 0) (bl mx len - bl lo 0)) w :=
 Det.of_run fun a hF => by
  obtain ⟨h1, h2, h3⟩ := hb a hF
  obtain ⟨inf, hi', hz⟩ := Option.map_eq_some_iff.1 hs
  have hr := run_bounds (P := P) (w := w) (sl := false) h1 h2 h3 h
  have hsz : (sizeOf te).run P w = .ok m w := by simp [sizeOf, typeInfo, hi', hz]
  simp only [execOp, hF.eval hx, Instr.sliceAt, Sem.run_bind, run_underlying' ht, Result.andThen_ok, Instr.sureAddr, Sem.run_pure, hr, hsz, add_none]
def exCut (P : Program) (L : DL) (t : TypeId) (x : Operand) (xl xh xm : Option Operand) : Option (D × List Prop) := match opD L x, bndD L xl, bndD L xh, bndD L xm with
 | some (.ls nn e xs), some lo, some hi, some mx => (match sInf P t with
  | some m => bif Nat.beq e.length m then some (.ls nn e (cutL lo hi xs), [bndP lo hi mx xs.length xs.length]) else none
  | none => none)
 | some (.v (.slice none 0 0)), some lo, some hi, some mx => (match sInf P t with
  | some _ => some (.v vN, [bndP lo hi mx 0 0])
  | none => none)
 | some (.cp k o), some lo, some hi, some mx => (match aInf P t with
  | some (len, m) => bif Nat.beq m 1 then some (.sv k (o + bl lo 0) (bl hi len - bl lo 0), [bndP lo hi mx len len, len ≤ 9223372036854775807, bl lo 0 < bl mx len]) else none
  | none => none)
 | _, _, _, _ => none
theorem exCut_ok {t : TypeId} {x : Operand} {xl xh xm : Option Operand} {d : D} {ps : List Prop} (h : exCut P L t x xl xh xm = some (d, ps)) : PureOk P n ⟨ds, .slice t x xl xh xm, ty, pos, af, gu⟩ L d ps := by
 intro hp ξ g w hH _
 unfold exCut at h
 split at h
 ·rename_i nn e xs lo hi mx hx h1 h2 h3
  split at h
  ·rename_i m hsi
   obtain ⟨te, u1, u2⟩ := sInf_of hsi
   cases hb : Nat.beq e.length m with
   | false => rw [hb] at h; cases h
   | true =>
    rw [hb] at h
    have := Nat.eq_of_beq_eq_true hb
    subst this
    cases h
    obtain ⟨v, hv, u, ls, k1, k2, k3⟩ := opD_ev hH hx
    cases (List.cons.inj k1).1
    obtain ⟨hp1, _⟩ := hp
    have bnd := fun a hF => (⟨bndD_ev hH h1 a n hF, bndD_ev hH h2 a n hF, bndD_ev hH h3 a n hF⟩ : BndV a xl lo ∧ BndV a xh hi ∧ BndV a xm mx)
    have q := hp1
    obtain ⟨n1, n2, n3, n4, n5, n6, n7⟩ := hp1
    have hcl : (cutL lo hi xs).length = bl hi xs.length - bl lo 0 := by
     rw [cutL_eq, List.length_drop, List.length_take, Nat.min_eq_left (by cases mx <;> simp only [bl] at n6 n7 ⊢ <;> omega)]
    have hfa : Fa2 (rS g.X g.N w e) (cutL lo hi xs) ((ls.take (bl hi xs.length)).drop (bl lo 0)) := by
     rw [cutL_eq]; exact (k3.take _).drop _
    have hml := flat_len hfa.row
    rcases k2.at' with ⟨j1, j2, rfl⟩ | ⟨b, o, c, rfl, j1, j2, j3, j4, j5⟩
    ·have e1 : bl mx 0 = bl lo 0 := by rw [j2] at n5 n6 n7; have := n5; cases mx <;> cases lo <;> simp only [bl] at * <;> omega
     have hd := d_cut (P := P) (n := n) (w := w) (ds := ds) (ty := ty) (pos := pos) (af := af) (gu := gu) u1 u2 hv bnd (by rw [j2] at q; exact q)
     rw [if_pos e1] at hd
     have z1 : bl hi 0 - bl lo 0 = 0 := by rw [j2] at n5 n6 n7; omega
     have z2 : bl mx 0 - bl lo 0 = 0 := by omega
     rw [z1, z2] at hd
     have hc0 : (cutL lo hi xs).length = 0 := by rw [hcl, j2]; exact z1
     refine ⟨_, ⟨vN, _, rfl, ⟨by rw [hc0]; exact Nat.zero_le _, by rw [hml, ← hfa.len], .inl ⟨j1, hc0, rfl⟩⟩, hfa⟩, hd⟩
    ·have q2 : bndP lo hi mx xs.length c := ⟨n1, n2, n3, n4, n5, by cases mx <;> simp only [bl] at n6 n7 ⊢ <;> omega, by cases mx <;> simp only [bl] at n6 n7 ⊢ <;> omega⟩
     have hd := d_cut (P := P) (n := n) (w := w) (ds := ds) (ty := ty) (pos := pos) (af := af) (gu := gu) u1 u2 hv bnd q2
     have hbm : bl hi xs.length ≤ bl mx c := q2.2.2.2.2.2.1
     have hbc : bl mx c ≤ c := q2.2.2.2.2.2.2
     have ha : At w b (o + bl lo 0 * e.length) ((ls.take (bl hi xs.length)).drop (bl lo 0)).flatten := by
      have e1 : ls.flatten = ((ls.take (bl hi xs.length)).take (bl lo 0)).flatten ++ ((ls.take (bl hi xs.length)).drop (bl lo 0)).flatten ++ (ls.drop (bl hi xs.length)).flatten := by
       rw [← List.flatten_append, List.take_append_drop, ← List.flatten_append, List.take_append_drop]
      have := At.sub j5 e1
      rw [flat_len (m := e.length) (fun l hl => k3.row l (List.mem_of_mem_take (List.mem_of_mem_take hl)))] at this
      have e2 : ((ls.take (bl hi xs.length)).take (bl lo 0)).length = bl lo 0 := by
       rw [List.length_take, List.length_take, ← k3.len]
       have : bl hi xs.length ≤ xs.length := by cases mx <;> simp only [bl] at n6 n7 ⊢ <;> omega
       omega
      rwa [e2] at this
     by_cases hz : bl mx c = bl lo 0
     ·rw [if_pos hz] at hd
      have z1 : bl hi xs.length - bl lo 0 = 0 := by omega
      have hc0 : (cutL lo hi xs).length = 0 := by rw [hcl]; exact z1
      refine ⟨_, ⟨_, _, rfl, ⟨by rw [hc0]; exact Nat.zero_le _, by rw [hml, ← hfa.len], .inr ⟨b, o, _, by rw [hcl], by rw [hcl]; omega, by omega, j3, j4, ?_⟩⟩, hfa⟩, hd⟩
      have hnil : ((ls.take (bl hi xs.length)).drop (bl lo 0)).flatten = [] := by
       apply List.eq_nil_of_length_eq_zero
       rw [hml, ← hfa.len, hc0, Nat.zero_mul]
      rw [hnil]
      intro i u hu; simp at hu
     ·rw [if_neg hz] at hd
      simp only [Option.map_some, add_none] at hd
      refine ⟨_, ⟨_, _, rfl, ⟨by rw [hcl]; have := k2.le; omega, by rw [hml, ← hfa.len], .inr ⟨b, o + bl lo 0 * e.length, _, by rw [hcl], by rw [hcl]; omega, by omega, j3, j4, ha⟩⟩, hfa⟩, hd⟩
  ·cases h
 ·rename_i lo hi mx hx h1 h2 h3
  split at h
  ·rename_i m hsi
   cases h
   obtain ⟨te, u1, u2⟩ := sInf_of hsi
   have bnd := fun a hF => (⟨bndD_ev hH h1 a n hF, bndD_ev hH h2 a n hF, bndD_ev hH h3 a n hF⟩ : BndV a xl lo ∧ BndV a xh hi ∧ BndV a xm mx)
   have hd := d_cut (P := P) (n := n) (w := w) (ds := ds) (ty := ty) (pos := pos) (af := af) (gu := gu) u1 u2 (opD_v hH hx) bnd hp.1
   obtain ⟨n1, n2, n3, n4, n5, n6, n7⟩ := hp.1
   rw [if_pos (by omega), show bl hi 0 - bl lo 0 = 0 by omega, show bl mx 0 - bl lo 0 = 0 by omega] at hd
   exact ⟨_, rfl, hd⟩
  ·cases h
 ·rename_i k o lo hi mx hx h1 h2 h3
  split at h
  ·rename_i len m ha
   cases hb : Nat.beq m 1 with
   | false => rw [hb] at h; cases h
   | true =>
    rw [hb] at h
    have := Nat.eq_of_beq_eq_true hb
    subst this
    cases h
    obtain ⟨te, u1, u2⟩ := aInf_of ha
    obtain ⟨p1, p2, p3, _⟩ := hp
    obtain ⟨v, hv, b, k1, k2⟩ := opD_ev hH hx
    cases (List.cons.inj k2).1
    have bnd := fun a hF => (⟨bndD_ev hH h1 a n hF, bndD_ev hH h2 a n hF, bndD_ev hH h3 a n hF⟩ : BndV a xl lo ∧ BndV a xh hi ∧ BndV a xm mx)
    have hd := d_cutA (P := P) (n := n) (w := w) (ds := ds) (ty := ty) (pos := pos) (af := af) (gu := gu) u1 u2 hv bnd p1
    obtain ⟨n1, n2, n3, n4, n5, n6, n7⟩ := p1
    rw [if_neg (by omega), Nat.mul_one] at hd
    refine ⟨_, ⟨b, _, k1, rfl, by omega, ?_⟩, hd⟩
    simp only [maxLen]
    omega
  ·cases h
 ·cases h
end
end Go.Sx
namespace Go.Sx
open Go.Mi Go.RowKit
variable [Dfr]
def Fk.flat : Fk → Bool
 | .ref => false
 | .sl e => e.flat
 | .os e => e.flat
 | _ => true
def D.ren (r : Nat → Nat) : D → D
 | .cons d ds => .cons (d.ren r) (ds.ren r)
 | .ag ds => .ag (ds.ren r)
 | .tu ds => .tu (ds.ren r)
 | .fn f a b => .fn f (a.ren r) (b.ren r)
 | .ifc t d => .ifc t (d.ren r)
 | .cp k o => .cp (r k) o
 | .ep k o m n i => .ep (r k) o m n i
 | .xp k m n i o => .xp (r k) m n i o
 | .sk k => .sk (r k)
 | .sv k o n => .sv (r k) o n
 | .im d o => .im (d.ren r) o
 | d => d
def D.plain : D → Bool
 | .cons d ds => d.plain && ds.plain
 | .ag ds => ds.plain
 | .tu ds => ds.plain
 | .fn _ a b => a.plain && b.plain
 | .ifc _ d => d.plain
 | .im d _ => d.plain
 | .ls _ e _ => e.all Fk.flat
 | .os e _ => e.flat
 | .ip e _ _ => e.all Fk.flat
 | _ => true
def D.nm : D → List Nat
 | .cons d ds => d.nm ++ ds.nm
 | .ag ds => ds.nm
 | .tu ds => ds.nm
 | .fn _ a b => a.nm ++ b.nm
 | .ifc _ d => d.nm
 | .im d _ => d.nm
 | .cp k _ => [k]
 | .ep k _ _ _ _ => [k]
 | .xp k _ _ _ _ => [k]
 | .sk k => [k]
 | .sv k _ _ => [k]
 | _ => []
def O.ren (r : Nat → Nat) : O → O
 | .ob ty d => .ob ty (d.ren r)
 | .sl ty e xs => .sl ty e xs
def O.plain : O → Bool
 | .ob _ d => d.plain
 | .sl _ e _ => e.all Fk.flat
def O.nm : O → List Nat
 | .ob _ d => d.nm
 | .sl .. => []
section
variable {X : Nat → Prop} {N N' : Nat → Option Value} {w : World}
theorem fS_flat : ∀ (a : Fk) (x : a.T) (v : Value), a.flat = true → (fS X N w a x v ↔ fS X N' w a x v) := by
 intro a
 induction a with
 | int k => exact fun x v _ => Iff.rfl
 | bool => exact fun x v _ => Iff.rfl
 | str => exact fun x v _ => Iff.rfl
 | val => exact fun x v _ => Iff.rfl
 | sl e ih =>
  intro x v h
  have ih' := fun x v => ih x v h
  exact ⟨fun ⟨vs, h1, h2⟩ => ⟨vs, h1, h2.mono fun x v => (ih' x v).1⟩, fun ⟨vs, h1, h2⟩ => ⟨vs, h1, h2.mono fun x v => (ih' x v).2⟩⟩
 | os e ih =>
  intro x v h
  have ih' := fun x v => ih x v h
  cases x with
  | none => exact Iff.rfl
  | some xs => exact ⟨fun ⟨vs, h1, h2⟩ => ⟨vs, h1, h2.mono fun x v => (ih' x v).1⟩, fun ⟨vs, h1, h2⟩ => ⟨vs, h1, h2.mono fun x v => (ih' x v).2⟩⟩
 | ref => exact fun x v h => by cases h
theorem rS_flat : ∀ (e : List Fk) (x : RT e) (l : List Value), e.all Fk.flat = true → (rS X N w e x l ↔ rS X N' w e x l)
 | [], x, l, _ => Iff.rfl
 | [a], x, l, h => by
  simp only [List.all_cons, List.all_nil, Bool.and_true] at h
  exact ⟨fun ⟨v, h1, h2⟩ => ⟨v, h1, (fS_flat a _ _ h).1 h2⟩, fun ⟨v, h1, h2⟩ => ⟨v, h1, (fS_flat a _ _ h).2 h2⟩⟩
 | a :: b :: s, x, l, h => by
  rw [List.all_cons, Bool.and_eq_true] at h
  exact ⟨fun ⟨v, l', h1, h2, h3⟩ => ⟨v, l', h1, (fS_flat a _ _ h.1).1 h2, (rS_flat (b :: s) _ _ h.2).1 h3⟩, fun ⟨v, l', h1, h2, h3⟩ => ⟨v, l', h1, (fS_flat a _ _ h.1).2 h2, (rS_flat (b :: s) _ _ h.2).2 h3⟩⟩
theorem sem_ren {r : Nat → Nat} : ∀ (d : D) (m : Bool) (l : List Value), d.plain = true → (∀ k ∈ d.nm, N' k = N (r k)) → (sem X N w (d.ren r) m l ↔ sem X N' w d m l) := by
 intro d
 induction d with
 | ls nn e xs =>
  intro m l h _
  exact ⟨fun ⟨v, ls, h2, h3, h4⟩ => ⟨v, ls, h2, h3, h4.mono fun x l => (rS_flat e x l h).1⟩, fun ⟨v, ls, h2, h3, h4⟩ => ⟨v, ls, h2, h3, h4.mono fun x l => (rS_flat e x l h).2⟩⟩
 | os e o => intro m l h _; exact ⟨fun ⟨v, h2, h3⟩ => ⟨v, h2, (fS_flat (.os e) _ _ h).1 h3⟩, fun ⟨v, h2, h3⟩ => ⟨v, h2, (fS_flat (.os e) _ _ h).2 h3⟩⟩
 | cons d ds ih1 ih2 =>
  intro m l h hn
  simp only [D.plain, Bool.and_eq_true] at h
  have n1 := fun k hk => hn k (List.mem_append_left _ hk)
  have n2 := fun k hk => hn k (List.mem_append_right _ hk)
  exact ⟨fun ⟨l1, l2, e, h1, h2⟩ => ⟨l1, l2, e, (ih1 _ _ h.1 n1).1 h1, (ih2 _ _ h.2 n2).1 h2⟩, fun ⟨l1, l2, e, h1, h2⟩ => ⟨l1, l2, e, (ih1 _ _ h.1 n1).2 h1, (ih2 _ _ h.2 n2).2 h2⟩⟩
 | ag d ih => intro m l h hn; exact ⟨fun ⟨l', h1, h2, h3⟩ => ⟨l', (ih _ _ h hn).1 h1, h2, h3⟩, fun ⟨l', h1, h2, h3⟩ => ⟨l', (ih _ _ h hn).2 h1, h2, h3⟩⟩
 | tu d ih => intro m l h hn; exact ⟨fun ⟨l', h1, h2⟩ => ⟨l', (ih _ _ h hn).1 h1, h2⟩, fun ⟨l', h1, h2⟩ => ⟨l', (ih _ _ h hn).2 h1, h2⟩⟩
 | fn f a b iha ihb =>
  intro m l h hn
  simp only [D.plain, Bool.and_eq_true] at h
  have n1 := fun k hk => hn k (List.mem_append_left _ hk)
  have n2 := fun k hk => hn k (List.mem_append_right _ hk)
  exact ⟨fun ⟨va, vb, h1, h2, h3⟩ => ⟨va, vb, (iha _ _ h.1 n1).1 h1, (ihb _ _ h.2 n2).1 h2, h3⟩, fun ⟨va, vb, h1, h2, h3⟩ => ⟨va, vb, (iha _ _ h.1 n1).2 h1, (ihb _ _ h.2 n2).2 h2, h3⟩⟩
 | ifc t d ih => intro m l h hn; exact ⟨fun ⟨v, h1, h2⟩ => ⟨v, (ih _ _ h hn).1 h1, h2⟩, fun ⟨v, h1, h2⟩ => ⟨v, (ih _ _ h hn).2 h1, h2⟩⟩
 | im d o ih => intro m l h hn; exact ⟨fun ⟨b, l', h2, h3, h4, h5, h7, h6⟩ => ⟨b, l', h2, h3, h4, h5, h7, (ih _ _ h hn).1 h6⟩, fun ⟨b, l', h2, h3, h4, h5, h7, h6⟩ => ⟨b, l', h2, h3, h4, h5, h7, (ih _ _ h hn).2 h6⟩⟩
 | ip e x o => intro m l h _; exact ⟨fun ⟨b, o0, l', h2, h3, h4, h5, h6⟩ => ⟨b, o0, l', h2, h3, h4, h5, (rS_flat e _ _ h).1 h6⟩, fun ⟨b, o0, l', h2, h3, h4, h5, h6⟩ => ⟨b, o0, l', h2, h3, h4, h5, (rS_flat e _ _ h).2 h6⟩⟩
 | cp k o => intro m l _ hn; simp only [D.ren, sem, hn k (by simp [D.nm])]
 | ep k o z n i => intro m l _ hn; simp only [D.ren, sem, hn k (by simp [D.nm])]
 | xp k z n i o => intro m l _ hn; simp only [D.ren, sem, hn k (by simp [D.nm])]
 | sk k => intro m l _ hn; simp only [D.ren, sem, hn k (by simp [D.nm])]
 | sv k o n => intro m l _ hn; simp only [D.ren, sem, hn k (by simp [D.nm])]
 | _ => exact fun m l _ _ => Iff.rfl
end
theorem OS_ren {g g' : G} {w : World} {r : Nat → Nat} {k : Nat} {o : O} (hp : o.plain = true) (hn : ∀ j ∈ o.nm, g'.N j = g.N (r j)) (hk : g'.N k = g.N (r k)) (hf : g'.F k = g.F (r k)) (hx : g'.X = g.X) : OS g w (r k) (o.ren r) ↔ OS g' w k o := by
 cases o with
 | ob ty d =>
  simp only [O.ren, OS, hk, hf, hx]
  constructor
  ·rintro ⟨b, c, h1, h2, h3, h4, h5⟩; exact ⟨b, c, h1, h2, h3, (sem_ren d _ _ hp hn).1 h4, h5⟩
  ·rintro ⟨b, c, h1, h2, h3, h4, h5⟩; exact ⟨b, c, h1, h2, h3, (sem_ren d _ _ hp hn).2 h4, h5⟩
 | sl ty e xs =>
  simp only [O.ren, OS, hk, hf, hx]
  constructor
  ·rintro ⟨v, ls, h1, h2, h3, h4, h5, h6⟩; exact ⟨v, ls, h1, h2, h3, h4, h5.mono fun x l => (rS_flat e x l hp).1, h6⟩
  ·rintro ⟨v, ls, h1, h2, h3, h4, h5, h6⟩; exact ⟨v, ls, h1, h2, h3, h4, h5.mono fun x l => (rS_flat e x l hp).2, h6⟩
abbrev Hc := List (Nat × O)
def lkC : Hc → Nat → Option O
 | [], _ => none
 | (s, o) :: r, t => bif Nat.beq s t then some o else lkC r t
structure Con where
 args : List D
 H0 : Hc
 res : D
 H1 : Hc
def Con.foot (c : Con) (g : G) : Nat → Prop := fun b => ∃ k o, lkC c.H0 k = some o ∧ b ∈ g.F k
structure CPost (c : Con) (g : G) (w : World) (v : Value) (g' : G) (w' : World) : Prop where
 go : Go (c.foot g) g w g' w'
 r : Sm g' w' c.res v
 hs : HS (lkC c.H1) g' w'
 fp : ∀ k o, lkC c.H1 k = some o → ∀ b ∈ g'.F k, c.foot g b ∨ w.heap.size ≤ b
def ConOk (P : Program) (f : FuncId) (c : Con) : Prop :=
 Go.Mi.Callee P f ∧ ∀ vs g w, HS (lkC c.H0) g w → (∀ k v, g.N k = some v → k ∈ keys c.H0) → sem g.X g.N w (chain c.args) true vs → Calls P f vs.toArray w (Ret fun v w' => ∃ g', CPost c g w v g' w')
def ConOkE (E : Value → Ending) (P : Program) (f : FuncId) (c : Con) : Prop :=
 Go.Mi.Callee P f ∧ ∀ vs g w, HS (lkC c.H0) g w → (∀ k v, g.N k = some v → k ∈ keys c.H0) → sem g.X g.N w (chain c.args) true vs → Calls P f vs.toArray w (fun e w' => ∃ v, e = E v ∧ ∃ g', CPost c g w v g' w')
theorem lkC_keys {A : Hc} {k : Nat} : k ∈ keys A ↔ lkC A k ≠ none := by
 induction A with
 | nil => simp [keys, lkC]
 | cons x A ih =>
  obtain ⟨s, o⟩ := x
  simp only [keys, List.map_cons, List.mem_cons, lkC] at ih ⊢
  by_cases h : s = k
  ·subst h; simp
  ·rw [beqf h]
   have : ¬ k = s := fun e => h e.symm
   simp only [this, false_or, cond_false]
   exact ih
abbrev Ren := List (Nat × Nat)
def rn : Ren → Nat → Nat
 | [], k => k
 | (s, t) :: r, k => bif Nat.beq s k then t else rn r k
def weak : D → D → D
 | .ls true e xs, .ls false _ _ => .ls false e xs
 | .v (.slice none 0 0), .ls false e _ => .ls false e []
 | .v (.slice none 0 0), .os e _ => .os e none
 | .ls true e xs, .os a o => (match tOs a (.ls true e xs) with
  | some q => .os a q
  | none => .ls true e xs)
 | d, _ => d
theorem weak_ok {g : G} {w : World} {d e : D} {v : Value} (h : Sm g w d v) : Sm g w (weak d e) v := by
 unfold weak
 split
 ·obtain ⟨u, ls, h1, h2, h3⟩ := h; exact ⟨u, ls, h1, h2.gen, h3⟩
 ·have : [v] = [vN] := h
  exact ⟨v, [], rfl, (List.cons.inj this).1 ▸ Lsl.nil, trivial⟩
 ·have : [v] = [vN] := h
  exact ⟨v, rfl, (List.cons.inj this).1⟩
 ·split
  ·rename_i q hq
   exact ⟨v, rfl, (toF_ok (a := .os _) h hq).1⟩
  ·exact h
 ·exact h
def weakL : List D → List D → List D
 | d :: ds, e :: es => weak d e :: weakL ds es
 | ds, _ => ds
theorem weakL_ok {g : G} {w : World} : ∀ {ds es : List D} {vs : List Value}, sem g.X g.N w (chain ds) true vs → (∀ d ∈ ds, d.one = true) → sem g.X g.N w (chain (weakL ds es)) true vs
 | [], es, vs, h, _ => by cases es <;> exact h
 | d :: ds, [], vs, h, _ => h
 | d :: ds, e :: es, vs, ⟨l1, l2, h1, h2, h3⟩, ho => by
  obtain ⟨v, rfl⟩ := sem_one h2 (ho d (List.mem_cons_self ..))
  exact ⟨[v], l2, h1, weak_ok h2, weakL_ok h3 fun d hd => ho d (List.mem_cons_of_mem _ hd)⟩
structure CR where
 f : FuncId
 c : Con
 ρ : Ren
 σ : Ren
def CR.r (q : CR) : Nat → Nat := rn (q.ρ ++ q.σ)
def allNm (ks : List Nat) (d : D) : Bool := d.plain && d.nm.all (memN · ks)
def allNmO (ks : List Nat) (o : O) : Bool := o.plain && o.nm.all (memN · ks)
def nodupB : List Nat → Bool
 | [] => true
 | x :: xs => !(memN x xs) && nodupB xs
def CR.chk (q : CR) : Bool :=
 let a := keys q.ρ
 let b := keys (q.ρ ++ q.σ)
 (q.c.args.all (allNm a)) && (q.c.H0.all fun p => memN p.1 a && allNmO a p.2) && (a.all fun k => memN k (keys q.c.H0)) && allNm b q.c.res && (q.c.H1.all fun p => memN p.1 b && allNmO b p.2) && ((keys q.σ).all fun k => memN k (keys q.c.H1) && !(memN k a)) &&
  nodupB (q.ρ.map (·.2)) && nodupB (q.σ.map (·.2)) && nodupB b && nodupB (keys q.c.H1)
def CR.eff (q : CR) : Eff := ⟨[], q.ρ.map fun p => (p.2, (lkC q.c.H1 p.1).map (O.ren q.r)), q.σ.filterMap fun p => (lkC q.c.H1 p.1).map fun o => (p.2, o.ren q.r), q.c.res.ren q.r⟩
def H0Ok (H : Hp) (r : Nat → Nat) : Hc → Prop
 | [] => True
 | (j, o) :: rest => lkH H (r j) = some (o.ren r) ∧ H0Ok H r rest
def CR.exp (q : CR) : List D × List (Option O) := (q.c.args.map (D.ren q.r), q.c.H0.map fun p => some (p.2.ren q.r))
def CR.need (q : CR) (ays : List D) (H : Hp) : Prop := (weakL ays (q.c.args.map (D.ren q.r)), q.c.H0.map fun p => lkH H (q.r p.1)) = q.exp
theorem CR.need_of {q : CR} {ays : List D} {H : Hp} (h : q.need ays H) : weakL ays (q.c.args.map (D.ren q.r)) = q.c.args.map (D.ren q.r) ∧ H0Ok H q.r q.c.H0 := by
 have h1 := (Prod.mk.inj h).1
 have h2 := (Prod.mk.inj h).2
 refine ⟨h1, ?_⟩
 have : ∀ (A : Hc), (A.map fun p => lkH H (q.r p.1)) = (A.map fun p => some (p.2.ren q.r)) → H0Ok H q.r A := by
  intro A
  induction A with
  | nil => exact fun _ => trivial
  | cons p A ih =>
   intro h
   simp only [List.map_cons, List.cons.injEq] at h
   exact ⟨h.1, ih h.2⟩
 exact this _ h2
end Go.Sx
namespace Go.Sx
open Go.Mi Go.RowKit
variable [Dfr]
theorem rn_app {a b : Ren} {k : Nat} : rn (a ++ b) k = if k ∈ keys a then rn a k else rn b k := by
 induction a with
 | nil => simp [keys]
 | cons p a ih =>
  obtain ⟨s, t⟩ := p
  simp only [List.cons_append, rn]
  by_cases e : s = k
  ·subst e; simp [keys]
  ·rw [beqf e]
   have : ¬ k = s := fun h => e h.symm
   simp only [cond_false, ih, keys, List.map_cons, List.mem_cons, this, false_or]
   rfl
theorem nodupB_of : ∀ {l : List Nat}, nodupB l = true → l.Nodup
 | [], _ => List.nodup_nil
 | x :: xs, h => by
  simp only [nodupB, Bool.and_eq_true, Bool.not_eq_true'] at h
  refine List.nodup_cons.2 ⟨fun hm => ?_, nodupB_of h.2⟩
  rw [memN_iff.2 hm] at h
  cases h.1
def inv : Ren → Nat → Option Nat
 | [], _ => none
 | (s, t) :: r, k => bif Nat.beq t k then some s else inv r k
theorem rn_mem : ∀ {a : Ren} {k : Nat}, (keys a).Nodup → k ∈ keys a → (k, rn a k) ∈ a
 | (s, t) :: r, k, hn, h => by
  simp only [keys, List.map_cons, List.nodup_cons, List.mem_cons] at hn h
  simp only [rn]
  by_cases e : s = k
  ·subst e; simp
  ·rw [beqf e]
   exact List.mem_cons_of_mem _ (rn_mem hn.2 (h.resolve_left fun h => e h.symm))
theorem rn_of : ∀ {a : Ren} {k t : Nat}, (keys a).Nodup → (k, t) ∈ a → rn a k = t
 | (s, u) :: r, k, t, hn, h => by
  simp only [keys, List.map_cons, List.nodup_cons] at hn
  simp only [rn]
  rcases List.mem_cons.1 h with h | h
  ·cases h; simp
  ·have : ¬ s = k := fun e => hn.1 (e ▸ List.mem_map.2 ⟨_, h, rfl⟩)
   rw [beqf this]
   exact rn_of hn.2 h
theorem inv_of : ∀ {a : Ren} {k t : Nat}, (a.map (·.2)).Nodup → (k, t) ∈ a → inv a t = some k
 | (s, u) :: r, k, t, hn, h => by
  simp only [List.map_cons, List.nodup_cons] at hn
  simp only [inv]
  rcases List.mem_cons.1 h with h | h
  ·cases h; simp
  ·have : ¬ u = t := fun e => hn.1 (e ▸ List.mem_map.2 ⟨_, h, rfl⟩)
   rw [beqf this]
   exact inv_of hn.2 h
theorem inv_mem : ∀ {a : Ren} {k t : Nat}, inv a t = some k → (k, t) ∈ a
 | (s, u) :: r, k, t, h => by
  simp only [inv] at h
  by_cases e : u = t
  ·subst e; simp at h; subst h; simp
  ·rw [beqf e] at h; exact List.mem_cons_of_mem _ (inv_mem h)
structure CRok (q : CR) : Prop where
 args : ∀ d ∈ q.c.args, d.plain = true ∧ ∀ k ∈ d.nm, k ∈ keys q.ρ
 h0 : ∀ k o, lkC q.c.H0 k = some o → k ∈ keys q.ρ ∧ o.plain = true ∧ ∀ j ∈ o.nm, j ∈ keys q.ρ
 dom : ∀ k ∈ keys q.ρ, k ∈ keys q.c.H0
 res : q.c.res.plain = true ∧ ∀ k ∈ q.c.res.nm, k ∈ keys (q.ρ ++ q.σ)
 h1 : ∀ k o, lkC q.c.H1 k = some o → k ∈ keys (q.ρ ++ q.σ) ∧ o.plain = true ∧ ∀ j ∈ o.nm, j ∈ keys (q.ρ ++ q.σ)
 new : ∀ k ∈ keys q.σ, k ∈ keys q.c.H1 ∧ k ∉ keys q.ρ
 inj : (q.ρ.map (·.2)).Nodup
 inj2 : (q.σ.map (·.2)).Nodup
 nod : (keys (q.ρ ++ q.σ)).Nodup
theorem lkC_mem : ∀ {A : Hc} {k : Nat} {o : O}, lkC A k = some o → (k, o) ∈ A
 | (s, u) :: r, k, o, h => by
  simp only [lkC] at h
  by_cases e : s = k
  ·subst e; simp at h; subst h; simp
  ·rw [beqf e] at h; exact List.mem_cons_of_mem _ (lkC_mem h)
theorem CRok.of {q : CR} (h : q.chk = true) : CRok q := by
 simp only [CR.chk, Bool.and_eq_true, List.all_eq_true] at h
 obtain ⟨⟨⟨⟨⟨⟨⟨⟨⟨c1, c2⟩, c3⟩, c4⟩, c5⟩, c6⟩, c7⟩, c8⟩, c9⟩, _⟩ := h
 have nm : ∀ {ks : List Nat} {d : D}, allNm ks d = true → d.plain = true ∧ ∀ k ∈ d.nm, k ∈ ks := fun {ks d} h => by
  simp only [allNm, Bool.and_eq_true, List.all_eq_true] at h
  exact ⟨h.1, fun k hk => memN_iff.1 (h.2 k hk)⟩
 have nmO : ∀ {ks : List Nat} {d : O}, allNmO ks d = true → d.plain = true ∧ ∀ k ∈ d.nm, k ∈ ks := fun {ks d} h => by
  simp only [allNmO, Bool.and_eq_true, List.all_eq_true] at h
  exact ⟨h.1, fun k hk => memN_iff.1 (h.2 k hk)⟩
 refine ⟨fun d hd => nm (c1 d hd), fun k o ho => ?_, fun k hk => memN_iff.1 (c3 k hk), nm c4, fun k o ho => ?_, fun k hk => ?_, nodupB_of c7, nodupB_of c8, nodupB_of c9⟩
 ·have := c2 _ (lkC_mem ho)
  simp only at this
  exact ⟨memN_iff.1 this.1, nmO this.2⟩
 ·have := c5 _ (lkC_mem ho)
  simp only at this
  exact ⟨memN_iff.1 this.1, nmO this.2⟩
 ·have := c6 k hk
  simp only [Bool.not_eq_true'] at this
  exact ⟨memN_iff.1 this.1, fun hm => by rw [memN_iff.2 hm] at this; cases this.2⟩
theorem H0Ok_at {H : Hp} {r : Nat → Nat} : ∀ {A : Hc} {k : Nat} {o : O}, H0Ok H r A → lkC A k = some o → lkH H (r k) = some (o.ren r)
 | (s, u) :: rest, k, o, h, hk => by
  simp only [lkC] at hk
  by_cases e : s = k
  ·subst e; simp at hk; subst hk; exact h.1
  ·rw [beqf e] at hk; exact H0Ok_at h.2 hk
theorem chain_ren {r : Nat → Nat} : ∀ (ds : List D), chain (ds.map (D.ren r)) = (chain ds).ren r
 | [] => rfl
 | d :: ds => by simp only [List.map_cons, chain, D.ren, chain_ren ds]
theorem chain_plain : ∀ {ds : List D}, (∀ d ∈ ds, d.plain = true) → (chain ds).plain = true
 | [], _ => rfl
 | d :: ds, h => by simp only [chain, D.plain, h d (List.mem_cons_self ..), chain_plain fun d hd => h d (List.mem_cons_of_mem _ hd), Bool.and_self]
theorem chain_nm : ∀ {ds : List D} {k : Nat}, k ∈ (chain ds).nm → ∃ d ∈ ds, k ∈ d.nm
 | [], k, h => by simp [chain, D.nm] at h
 | d :: ds, k, h => by
  simp only [chain, D.nm, List.mem_append] at h
  rcases h with h | h
  ·exact ⟨d, List.mem_cons_self .., h⟩
  ·obtain ⟨e, h1, h2⟩ := chain_nm h; exact ⟨e, List.mem_cons_of_mem _ h1, h2⟩
section
variable {P : Program} {g : G} {w : World} {H : Hp}
theorem call_postE {E : Value → Ending} {q : CR} (hq : CRok q) (hc : ConOkE E P q.f q.c) (hH0 : H0Ok H q.r q.c.H0) (hS : HS (resH (q.eff.rd ++ keys q.eff.wr) (lkH H)) g w) (hnew : ∀ p ∈ q.eff.nw, g.N p.1 = none) {vs : List Value} (hv : sem g.X g.N w (chain (q.c.args.map (D.ren q.r))) true vs) :
  Calls P q.f vs.toArray w (fun e w' => ∃ v, e = E v ∧ ∃ g', Post (lkH H) q.eff g w v g' w') := by
 have hr1 : ∀ k ∈ keys q.ρ, q.r k = rn q.ρ k := fun k hk => by simp only [CR.r, rn_app, hk, if_true]
 have hr2 : ∀ k ∈ keys q.σ, q.r k = rn q.σ k := fun k hk => by simp only [CR.r, rn_app, (hq.new k hk).2, if_false]
 have nd1 : (keys q.ρ).Nodup := by
  have := hq.nod
  simp only [keys, List.map_append] at this
  exact (List.nodup_append.1 this).1
 have nd2 : (keys q.σ).Nodup := by
  have := hq.nod
  simp only [keys, List.map_append] at this
  exact (List.nodup_append.1 this).2.1
 have hinj : ∀ i ∈ keys q.ρ, ∀ j ∈ keys q.ρ, q.r i = q.r j → i = j := fun i hi j hj e => by
  have h1 := inv_of hq.inj (rn_mem nd1 hi)
  have h2 := inv_of hq.inj (rn_mem nd1 hj)
  rw [← hr1 i hi, e, hr1 j hj, h2] at h1
  exact (Option.some.inj h1).symm
 have hwk : ∀ k ∈ keys q.ρ, q.r k ∈ keys q.eff.wr := fun k hk => by
  simp only [CR.eff, keys, List.map_map]
  exact List.mem_map.2 ⟨_, rn_mem nd1 hk, (hr1 k hk).symm⟩
 have hkw : ∀ k ∈ keys q.eff.wr, ∃ j ∈ keys q.ρ, k = q.r j := fun k hk => by
  simp only [CR.eff, keys, List.map_map] at hk
  obtain ⟨p, hp, rfl⟩ := List.mem_map.1 hk
  have h1 : p.1 ∈ keys q.ρ := List.mem_map.2 ⟨p, hp, rfl⟩
  exact ⟨p.1, h1, by rw [hr1 _ h1, rn_of nd1 hp]; rfl⟩
 have obj : ∀ k o, lkC q.c.H0 k = some o → lkH H (q.r k) = some (o.ren q.r) ∧ resH (q.eff.rd ++ keys q.eff.wr) (lkH H) (q.r k) = some (o.ren q.r) := fun k o ho => by
  have h1 := H0Ok_at hH0 ho
  exact ⟨h1, by simp only [resH, memN_iff.2 (List.mem_append_right q.eff.rd (hwk k (hq.h0 k o ho).1)), h1, cond_true]⟩
 have hsome : ∀ k ∈ keys q.ρ, ∃ v, g.N (q.r k) = some v := fun k hk => by
  have := lkC_keys.1 (hq.dom k hk)
  obtain ⟨o, ho⟩ := Option.ne_none_iff_exists'.1 this
  have h1 := hS.os _ _ (obj k o ho).2
  cases o with
  | ob ty ds => obtain ⟨b, c, k1, _⟩ := h1; exact ⟨_, k1⟩
  | sl ty e xs => obtain ⟨b, c, k1, _⟩ := h1; exact ⟨_, k1⟩
 -- what the callee sees
 let gc : G := ⟨fun k => if k ∈ keys q.ρ then g.N (q.r k) else none, fun k => g.F (q.r k), g.X⟩
 have gcN : ∀ k ∈ keys q.ρ, gc.N k = g.N (q.r k) := fun k hk => if_pos hk
 have hSc : HS (lkC q.c.H0) gc w := by
  refine ⟨hS.wf, fun k o ho => ?_, fun k o ho b hb => ?_, fun k o k' o' ho ho' hne b hb hb' => ?_⟩
  ·obtain ⟨h1, h2, h3⟩ := hq.h0 k o ho
   exact (OS_ren h2 (fun j hj => gcN j (h3 j hj)) (gcN k h1) rfl rfl).1 (hS.os _ _ (obj k o ho).2)
  ·exact hS.own _ _ (obj k o ho).2 b hb
  ·exact hS.dis _ _ _ _ (obj k o ho).2 (obj k' o' ho').2 (fun e => hne (hinj k (hq.h0 k o ho).1 k' (hq.h0 k' o' ho').1 e)) b hb hb'
 have hvc : sem gc.X gc.N w (chain q.c.args) true vs := by
  rw [chain_ren] at hv
  refine (sem_ren _ _ _ (chain_plain fun d hd => (hq.args d hd).1) fun k hk => ?_).1 hv
  obtain ⟨d, hd, hk⟩ := chain_nm hk
  exact gcN k ((hq.args d hd).2 k hk)
 refine (hc.2 vs gc w hSc (fun k v hk => ?_) hvc).mono fun en w' ⟨v, he, g', hp⟩ => ⟨v, he, ?_⟩
 ·by_cases h : k ∈ keys q.ρ
  ·exact hq.dom k h
  ·rw [show gc.N k = none from if_neg h] at hk; cases hk
 -- behind it
 have hnone : ∀ k ∈ keys q.σ, g.N (q.r k) = none := fun k hk => by
  obtain ⟨o, ho⟩ := Option.ne_none_iff_exists'.1 (lkC_keys.1 (hq.new k hk).1)
  refine hnew (q.r k, o.ren q.r) ?_
  simp only [CR.eff, List.mem_filterMap]
  exact ⟨_, rn_mem nd2 hk, by rw [ho, Option.map_some, hr2 k hk]⟩
 let G' : G := ⟨fun k => match g.N k with
  | some v => some v
  | none => (inv q.σ k).bind g'.N, fun k => match g.N k with
  | some _ => g.F k
  | none => match inv q.σ k with
   | some j => g'.F j
   | none => g.F k, g'.X⟩
 have GN : ∀ k ∈ keys (q.ρ ++ q.σ), g'.N k = G'.N (q.r k) := fun k hk => by
  simp only [keys, List.map_append, List.mem_append] at hk
  rcases hk with hk | hk
  ·obtain ⟨v, hv⟩ := hsome k hk
   have h1 : gc.N k = some v := (gcN k hk).trans hv
   rw [hp.go.n k v h1]
   simp only [G', hv]
  ·simp only [G', hnone k hk]
   rw [hr2 k hk, inv_of hq.inj2 (rn_mem nd2 hk)]
   rfl
 have GF : ∀ k ∈ keys (q.ρ ++ q.σ), g'.F k = G'.F (q.r k) := fun k hk => by
  simp only [keys, List.map_append, List.mem_append] at hk
  rcases hk with hk | hk
  ·obtain ⟨v, hv⟩ := hsome k hk
   have h1 : gc.N k = some v := (gcN k hk).trans hv
   rw [hp.go.f k v h1]
   simp only [G', hv]
   rfl
  ·simp only [G', hnone k hk]
   rw [hr2 k hk, inv_of hq.inj2 (rn_mem nd2 hk)]
 have hft : ∀ b, q.c.foot gc b → q.eff.foot (lkH H) g b := fun b ⟨k, o, h1, h2⟩ => ⟨q.r k, hwk k (hq.h0 k o h1).1, _, (obj k o h1).1, h2⟩
 have hft2 : ∀ b, q.eff.foot (lkH H) g b → q.c.foot gc b := fun b ⟨k, h1, o, h2, h3⟩ => by
  obtain ⟨j, hj, rfl⟩ := hkw k h1
  obtain ⟨o', ho'⟩ := Option.ne_none_iff_exists'.1 (lkC_keys.1 (hq.dom j hj))
  exact ⟨j, o', ho', h3⟩
 have houts : ∀ k o, lkH q.eff.outs k = some o → ∃ j o', j ∈ keys (q.ρ ++ q.σ) ∧ k = q.r j ∧ lkC q.c.H1 j = some o' ∧ o = o'.ren q.r := by
  intro k o h
  have h := lkH_some.1 h
  rw [Eff.outs, lkO_app] at h
  cases hw : lkO q.eff.wr k with
  | some x =>
   rw [hw] at h
   cases h
   have : ∀ (a : Ren), (∀ p ∈ a, p ∈ q.ρ) → lkO (a.map fun p => (p.2, (lkC q.c.H1 p.1).map (O.ren q.r))) k = some (some o) → ∃ p ∈ q.ρ, p.2 = k ∧ (lkC q.c.H1 p.1).map (O.ren q.r) = some o := by
    intro a
    induction a with
    | nil => intro _ h; cases h
    | cons p a ih =>
     intro hm h
     simp only [List.map_cons, lkO] at h
     by_cases e : p.2 = k
     ·have hb : Nat.beq p.2 k = true := by rw [e]; exact Nat.beq_refl k
      rw [hb] at h
      simp only [cond_true, Option.some.injEq] at h
      exact ⟨p, hm p (List.mem_cons_self ..), e, h⟩
     ·rw [beqf e] at h; exact ih (fun p hp => hm p (List.mem_cons_of_mem _ hp)) h
   obtain ⟨p, hp1, hp2, hp3⟩ := this q.ρ (fun _ h => h) hw
   obtain ⟨o', h1, h2⟩ := Option.map_eq_some_iff.1 hp3
   have h3 : p.1 ∈ keys q.ρ := List.mem_map.2 ⟨p, hp1, rfl⟩
   exact ⟨p.1, o', by simp only [keys, List.map_append, List.mem_append]; exact .inl h3, by rw [hr1 _ h3, rn_of nd1 hp1, hp2], h1, h2.symm⟩
  | none =>
   rw [hw] at h
   have : ∀ (a : List (Nat × O)), lkO (a.map fun p => (p.1, some p.2)) k = some (some o) → (k, o) ∈ a := by
    intro a
    induction a with
    | nil => intro h; cases h
    | cons p a ih =>
     intro h
     obtain ⟨s, u⟩ := p
     simp only [List.map_cons, lkO] at h
     by_cases e : s = k
     ·subst e; simp at h; subst h; simp
     ·rw [beqf e] at h; exact List.mem_cons_of_mem _ (ih h)
   have hm := this _ h
   simp only [CR.eff, List.mem_filterMap] at hm
   obtain ⟨p, hp1, hp2⟩ := hm
   obtain ⟨o', h1, h2⟩ := Option.map_eq_some_iff.1 hp2
   cases h2
   have h3 : p.1 ∈ keys q.σ := List.mem_map.2 ⟨p, hp1, rfl⟩
   exact ⟨p.1, o', by simp only [keys, List.map_append, List.mem_append]; exact .inr h3, by rw [hr2 _ h3, rn_of nd2 hp1], h1, rfl⟩
 refine ⟨G', ⟨⟨⟨hp.go.ch.os, hp.go.ch.tape, hp.go.ch.output, hp.go.ch.size, fun b hb hn => hp.go.ch.blk b hb fun h => hn (hft b h)⟩, fun x hx => hp.go.s x (hft2 x hx), hp.go.x, fun x hx hn => hp.go.k x hx fun h => hn (hft x h), fun k u hk => by simp only [G', hk], fun k u hk => by simp only [G', hk]⟩, ?_, ⟨hp.hs.wf, fun k o h => ?_, fun k o h b hb => ?_, fun k o k' o' h h' hne b hb hb' => ?_⟩, fun k o h b hb => ?_, fun k u hk => ?_⟩⟩
 ·exact (sem_ren q.c.res _ _ hq.res.1 fun k hk => GN k (hq.res.2 k hk)).2 hp.r
 ·obtain ⟨j, o', h1, rfl, h2, rfl⟩ := houts k o h
  obtain ⟨h3, h4, h5⟩ := hq.h1 j o' h2
  exact (OS_ren h4 (fun i hi => GN i (h5 i hi)) (GN j h3) (GF j h3) rfl).2 (hp.hs.os j o' h2)
 ·obtain ⟨j, o', h1, rfl, h2, rfl⟩ := houts k o h
  rw [← GF j h1] at hb
  exact hp.hs.own j o' h2 b hb
 ·obtain ⟨j, o2, h1, rfl, h2, rfl⟩ := houts k o h
  obtain ⟨j', o2', h1', rfl, h2', rfl⟩ := houts k' o' h'
  rw [← GF j h1] at hb
  rw [← GF j' h1'] at hb'
  exact hp.hs.dis j o2 j' o2' h2 h2' (fun e => hne (by rw [e])) b hb hb'
 ·obtain ⟨j, o', h1, rfl, h2, rfl⟩ := houts k o h
  rw [← GF j h1] at hb
  exact (hp.fp j o' h2 b hb).imp (hft b) id
 ·simp only [G'] at hk
  cases hg : g.N k with
  | some v => rw [hg] at hk; simp only at hk; exact .inl hk
  | none =>
   rw [hg] at hk
   simp only at hk
   obtain ⟨j, hj, _⟩ := Option.bind_eq_some_iff.1 hk
   have hm := inv_mem hj
   have h3 : j ∈ keys q.σ := List.mem_map.2 ⟨_, hm, rfl⟩
   obtain ⟨o, ho⟩ := Option.ne_none_iff_exists'.1 (lkC_keys.1 (hq.new j h3).1)
   refine .inr (List.mem_map.2 ⟨(k, o.ren q.r), ?_, rfl⟩)
   simp only [CR.eff, List.mem_filterMap]
   exact ⟨_, hm, by rw [ho]; rfl⟩
theorem call_post {q : CR} (hq : CRok q) (hc : ConOk P q.f q.c) (hH0 : H0Ok H q.r q.c.H0) (hS : HS (resH (q.eff.rd ++ keys q.eff.wr) (lkH H)) g w) (hnew : ∀ p ∈ q.eff.nw, g.N p.1 = none) {vs : List Value} (hv : sem g.X g.N w (chain (q.c.args.map (D.ren q.r))) true vs) :
  Calls P q.f vs.toArray w (Ret fun v w' => ∃ g', Post (lkH H) q.eff g w v g' w') :=
 call_postE (E := .returned) hq hc hH0 hS hnew hv
end
end Go.Sx
namespace Go.Sx
open Go.Mi Go.RowKit
variable [Dfr]
def aInE (P : Program) (t : TypeId) : Option (Nat × Bool × Nat) := match P.underlying t with
 | some (.array len e) => (tInf P e).map fun p => (len, p)
 | _ => none
def exIdx (P : Program) (L : DL) (t : TypeId) (x y : Operand) : Option (D × List Prop) := match opD L x, opD L y, aInE P t with
 | some (.ar k n f), some (.v (.int _ i)), some (len, fl, m) => bif Nat.ble (len * m) n then (bif fl then (bif Nat.beq m 1 then some (.v (.int k (f (ixp 0 i.toNat m))), [0 ≤ i ∧ i < (len : Int)]) else none)
   else some (.ar k m fun j => f (ixp 0 i.toNat m + j), [0 ≤ i ∧ i < (len : Int)])) else none
 | some (.ag d), some (.v (.int _ i)), some (len, fl, m) => ((getS (segs d) (i.toNat * m) m).bind (fin1 fl)).map fun r => (r, [0 ≤ i ∧ i < (len : Int)])
 | _, _, _ => none
section
variable {P : Program} {n : Nat} {L : DL} {ds : Option Nat} {ty : TypeId} {pos : String} {af : Array Edge} {gu : Option (Nat × Bool)} {g : G} {w : World}
theorem run_partD {t : TypeId} {fl : Bool} {m o : Nat} {r : List D} {d : D} {cs : Array Value} (ht : tInf P t = some (fl, m)) (hl : o + m ≤ cs.size) (hs : semS g.X g.N w r ((cs.toList.drop o).take m)) (ho : ∀ u ∈ cs.toList, u.oneCell' = true) (hf : fin1 fl r = some d) : ∃ v, Sm g w d v ∧ (part t cs o).run P w = .ok v w := by
 obtain ⟨td, h1, h2, h3⟩ := tInf_of ht
 unfold fin1 at hf
 cases fl with
 | true =>
  simp only [cond_true] at hf
  split at hf
  ·rename_i d0
   obtain ⟨v, hv, h4⟩ := one1_ok (semS_one.1 hs) hf
   refine ⟨v, h4, run_part1 h1 h2 ?_⟩
   have := congrArg (·[0]?) hv
   simp only [List.getElem?_cons_zero, List.getElem?_take, List.getElem?_drop, Nat.add_zero] at this
   split at this
   ·rw [← Array.getElem?_toList]; exact this
   ·cases this
  ·cases hf
 | false =>
  simp only [cond_false, Option.some.injEq] at hf
  subst hf
  refine ⟨_, mk1_ok hs fun u hu => ho u (List.mem_of_mem_drop (List.mem_of_mem_take hu)), ?_⟩
  obtain ⟨inf, hi, hz⟩ := Option.map_eq_some_iff.1 h3
  have hag : (isAgg t).run P w = .ok true w := by
   simp only [isAgg, Sem.run_bind, run_underlying' h1, Result.andThen_ok]
   cases td <;> simp_all [TypeDesc.flat]
  have e1 : cs.extract o (o + m) = ((cs.toList.drop o).take m).toArray := by
   apply Array.ext'
   simp
  simp [part, hag, sizeOf, typeInfo, hi, hz, e1]
theorem exIdx_ok {t : TypeId} {x y : Operand} {d : D} {ps : List Prop} (h : exIdx P L t x y = some (d, ps)) : PureOk P n ⟨ds, .index t x y, ty, pos, af, gu⟩ L d ps := by
 intro hp ξ g w hH _
 have ae : ∀ {len m : Nat} {fl : Bool}, aInE P t = some (len, fl, m) → ∃ e, P.underlying t = some (.array len e) ∧ tInf P e = some (fl, m) := fun {len m fl} h => by
  unfold aInE at h
  split at h
  ·rename_i len' e hu
   obtain ⟨⟨f', m'⟩, h1, h2⟩ := Option.map_eq_some_iff.1 h
   cases h2
   exact ⟨e, hu, h1⟩
  ·cases h
 have fin : ∀ {len m : Nat} {fl : Bool} {k : IntKind} {i : Int} {cs : Array Value} {r : List D} {d : D}, aInE P t = some (len, fl, m) → ev (exL L ξ) x = some (.agg cs) → ev (exL L ξ) y = some (.int k i) → 0 ≤ i → i < (len : Int) → i.toNat * m + m ≤ cs.size → semS g.X g.N w r ((cs.toList.drop (i.toNat * m)).take m) → (∀ u ∈ cs.toList, u.oneCell' = true) → fin1 fl r = some d → ∃ v, Sm g w d v ∧ Det P ⟨ds, .index t x y, ty, pos, af, gu⟩ n (exL L ξ) w v w := by
  intro len m fl k i cs r d ha hx hy h0 h1 hl hs ho hf
  obtain ⟨e, u1, u2⟩ := ae ha
  obtain ⟨v, h2, h3⟩ := run_partD u2 hl hs ho hf
  obtain ⟨td, t1, t2, t3⟩ := tInf_of u2
  obtain ⟨inf, hi, hz⟩ := Option.map_eq_some_iff.1 t3
  refine ⟨v, h2, Det.of_run fun a hF => ?_⟩
  simp [execOp, hF.eval hx, hF.eval hy, Instr.index, asIntOf, run_underlying' u1, h0, h1, sizeOf, typeInfo, hi, hz, h3]
 unfold exIdx at h
 split at h
 ·rename_i k nn f k' i len fl m hx hy ha
  cases hb : Nat.ble (len * m) nn with
  | false => rw [hb] at h; cases h
  | true =>
   rw [hb] at h
   have hb := Nat.le_of_ble_eq_true hb
   obtain ⟨v, hv, hs⟩ := opD_ev hH hx
   have hs' : [v] = [.agg (cells k nn f).toArray] := hs
   cases (List.cons.inj hs').1
   have one : ∀ u ∈ (cells k nn f).toArray.toList, u.oneCell' = true := fun u hu => by
    simp only [cells, List.mem_map] at hu
    obtain ⟨_, _, rfl⟩ := hu
    rfl
   have key : 0 ≤ i → i < (len : Int) → i.toNat * m + m ≤ (cells k nn f).toArray.size ∧ ((cells k nn f).toArray.toList.drop (i.toNat * m)).take m = cells k m fun j => f (i.toNat * m + j) := fun h0 h1 => by
    have h2 : (i.toNat + 1) * m ≤ len * m := Nat.mul_le_mul_right _ (by omega)
    rw [Nat.add_mul, Nat.one_mul] at h2
    refine ⟨by simp [cells]; omega, ?_⟩
    apply List.ext_getElem?
    intro j
    rw [List.getElem?_take, List.getElem?_drop]
    by_cases hj : j < m
    ·rw [if_pos hj, cells_get hj]
     exact cells_get (by omega)
    ·rw [if_neg hj, List.getElem?_eq_none (by rw [cells_len]; omega)]
   cases fl with
   | true =>
    simp only [cond_true] at h
    cases hm : Nat.beq m 1 with
    | false => rw [hm] at h; cases h
    | true =>
     rw [hm] at h
     have := Nat.eq_of_beq_eq_true hm
     subst this
     cases h
     obtain ⟨k1, k2⟩ := key hp.1.1 hp.1.2
     refine fin ha hv (opD_v hH hy) hp.1.1 hp.1.2 k1 (r := [.ar k 1 fun j => f (i.toNat * 1 + j)]) (by rw [k2]; exact semS_one.2 rfl) one ?_
     simp only [fin1, one1, cond_true, Nat.beq_refl, ixp_eq, Nat.zero_add, Nat.add_zero]
   | false =>
    cases h
    obtain ⟨k1, k2⟩ := key hp.1.1 hp.1.2
    refine fin ha hv (opD_v hH hy) hp.1.1 hp.1.2 k1 (r := [.ar k m fun j => f (i.toNat * m + j)]) (by rw [k2]; exact semS_one.2 rfl) one ?_
    simp only [fin1, mk1, cond_false, ixp_eq, Nat.zero_add]
 ·rename_i d0 k' i len fl m hx hy ha
  obtain ⟨r, h1, h2⟩ := Option.map_eq_some_iff.1 h
  cases h2
  obtain ⟨ss, h3, h4⟩ := Option.bind_eq_some_iff.1 h1
  obtain ⟨v, hv, l', k1, k2, k3⟩ := opD_ev hH hx
  cases (List.cons.inj k3).1
  obtain ⟨q1, q2⟩ := getS_ok (sem_segs k1) h3
  by_cases hm : m = 0
  ·subst hm
   obtain ⟨e, u1, u2⟩ := ae ha
   have hr : ss = [] := by cases hsd : segs d0 <;> simp [hsd, getS] at h3 <;> exact h3
   subst hr
   cases fl with
   | true => simp [fin1] at h4
   | false =>
    simp only [fin1, cond_false, Option.some.injEq] at h4
    subst h4
    obtain ⟨td, t1, t2, t3⟩ := tInf_of u2
    obtain ⟨inf, hi, hz⟩ := Option.map_eq_some_iff.1 t3
    have hag : (isAgg e).run P w = .ok true w := by
     simp only [isAgg, Sem.run_bind, run_underlying' t1, Result.andThen_ok]
     cases td <;> simp_all [TypeDesc.flat]
    refine ⟨.agg #[], ⟨[], rfl, by simp, rfl⟩, Det.of_run fun a hF => ?_⟩
    have e0 : (Array.extract l'.toArray 0 0) = #[] := by apply Array.ext'; simp
    simp [execOp, hF.eval hv, hF.eval (opD_v hH hy), Instr.index, asIntOf, run_underlying' u1, hp.1.1, hp.1.2, sizeOf, typeInfo, hi, hz, part, hag]
  ·rw [if_neg hm] at q2
   exact fin ha hv (opD_v hH hy) hp.1.1 hp.1.2 (by simpa using q2) (by simpa using q1) (by simpa using k2) h4
 ·cases h
end
end Go.Sx
namespace Go.Sx
open Go.Mi Go.RowKit
variable [Dfr]
theorem zc_list (z : Value) (m : Nat) : (Builtin.zeroCells #[z] m).toList = List.replicate m z := by
 unfold Builtin.zeroCells
 apply List.ext_getElem
 ·simp
 ·intro i h1 h2
  simp [Nat.mod_one]
theorem zc_size (z : Value) (m : Nat) : (Builtin.zeroCells #[z] m).size = m := by rw [← Array.length_toList, zc_list]; simp
section
variable {P : Program} {n : Nat} {ds : Option Nat} {ty : TypeId} {pos : String} {af : Array Edge} {gu : Option (Nat × Bool)} {w : World}
theorem ok_appZ {s x : Operand} {t tn te : TypeId} {inf : TypeInfo} {z v : Value} {k : Nat} {kk kn : IntKind} {xs : List Value} {m : Nat} {Lv : List (Nat × Value)} (ht : P.underlying t = some (.slice te)) (htn : P.underlying tn = some (.int kn)) (hi : P.info? te = some inf) (hz : inf.zero = some z) (hm : inf.size = 1) (hzs : z.oneCell' = true)
  (hs : ev Lv s = some v) (hx : ev Lv x = some (.int kk m)) (hown : Own w 0 te 1 v k xs) (h63 : k + m ≤ 9223372036854775807) (hby : (k + m) * inf.bytes ≤ 140737488355328) :
  Ok1 P ⟨ds, .call ⟨.builtin .append, #[s, x], #[t, tn]⟩, ty, pos, af, gu⟩ n Lv w fun v' w' => Own w' 0 te 1 v' (k + m) (xs ++ List.replicate m z) ∧ Ch (oblk v) w w' ∧ (oblk v' = oblk v ∨ oblk v' = [w.heap.size]) := by
 have hzc : z.cells = #[z] := by cases z <;> simp_all [Value.cells, Value.oneCell']
 have hwr : IntKind.i64.wrap (m : Int) = m := wrap_i64 (by omega) (by omega)
 have hw0 : IntKind.i64.wrap 0 = 0 := rfl
 have hneg : ¬ ((m : Int) < 0) := by omega
 have hbm : m * inf.bytes ≤ 140737488355328 := Nat.le_trans (Nat.mul_le_mul_right _ (by omega)) hby
 have h48i : ¬ (281474976710656 < (m : Int) * (inf.bytes : Int)) := by
  rw [← Int.natCast_mul]; omega
 have run : ∀ {v' w'}, (Builtin.append_ #[t, tn] ty #[v, .int kk m]).run P w = .ok v' w' → Det P ⟨ds, .call ⟨.builtin .append, #[s, x], #[t, tn]⟩, ty, pos, af, gu⟩ n Lv w v' w' := fun hr => Det.of_run fun a hF => by
  simp [execOp, hF.eval hs, hF.eval hx, resolve, invoke, builtin, hr]
 rcases hown.2 with ⟨rfl, rfl⟩ | ⟨b, cap, cur, rfl, _, hb, hc, hc2, hcs, hct⟩
 ·have hx0 : xs = [] := List.eq_nil_of_length_eq_zero (by simpa using hown.1)
  subst hx0
  rcases Nat.eq_zero_or_pos m with rfl | hpos
  ·refine (run (v' := vN) (w' := w) ?_).mono fun v' w' ⟨e1, e2⟩ => ?_
   ·simp [Builtin.append_, run_underlying' ht, run_underlying' htn, sizeOf, typeInfo, hi, asInt, asIntOf, hw0]
   ·subst e1; subst e2
    exact ⟨⟨by simp, .inl ⟨rfl, rfl⟩⟩, Ch.refl _ _, .inl rfl⟩
  ·have hr := Lib.run_append_grow_zeros (P := P) w t tn ty te inf z kk kn ht htn hi hz none 0 0 [] (run_firstCells_none w.drew _ 0 0 0) m hpos (by omega) (by omega) (by omega) (by omega) (growslice_fits (need := 0 + m) (old := 0) (by omega) hby)
   refine (run hr).mono fun v' w' ⟨e1, e2⟩ => ?_
   subst e1; subst e2
   obtain ⟨G, hG⟩ : ∃ G, G = grownCap w (0 + m) 0 te := ⟨_, rfl⟩
   have hGn : 0 + m ≤ grownCap w (0 + m) 0 te := grownCap_ge w _ _ _
   have hG63 := grownCap_le_maxLen w (0 + m) 0 te (by unfold maxLen; omega)
   rw [← hG] at hGn hG63 ⊢
   have hch : Ch [] w w.drew := ⟨rfl, rfl, rfl, Nat.le_refl _, fun _ _ _ => rfl⟩
   have hnb : NewB w.drew (w.drew.alloc (.cells (([] : List Value).toArray ++ Builtin.zeroCells z.cells m ++ Builtin.zeroCells z.cells (G - (0 + m))) te)) w.heap.size _ te := ⟨rfl, rfl⟩
   refine ⟨⟨by simp, .inr ⟨_, G, _, rfl, Nat.zero_le _, (NewB.at hnb).2.1, hGn, hG63, ?_, ?_⟩⟩, ?_, .inr rfl⟩
   ·rw [hzc]
    simp only [Array.size_append, zc_size]
    simp; omega
   ·rw [hzc]
    simp only [Array.toList_append, zc_list]
    simp
   ·exact (hch.trans hnb.ch).mono (by simp)
 ·by_cases hroom : k + m ≤ cap
  ·have hfit : 0 + k * inf.size + (List.replicate m z).length ≤ cur.size := by rw [hm, hcs]; simp; omega
   have hst := run_storeCells_at P b (0 + k * inf.size) te (List.replicate m z) 0 cur w hb (by simpa using hfit) (fun u hu => by rw [(List.mem_replicate.1 hu).2]; exact hzs)
   have happ : (Builtin.append_ #[t, tn] ty #[vS b 0 k cap, .int kk m]).run P w = .ok (vS b 0 (k + m) cap) (w.setRow b (cur.toList.take (0 + k * inf.size) ++ List.replicate m z ++ cur.toList.drop (0 + k * inf.size + m)).toArray) := by
    rcases Nat.eq_zero_or_pos m with rfl | hpos
    ·have e0 : (cur.toList.take (0 + k * inf.size) ++ List.replicate 0 z ++ cur.toList.drop (0 + k * inf.size + 0)).toArray = cur := by simp
     rw [e0, setRow_self w b cur te (0, 0) hb]
     have h5 : (storeCells ((⟨b, 0, none⟩ : Addr).add (k * inf.size)) []).run P w = .ok () w := rfl
     simp [Builtin.append_, run_underlying' ht, run_underlying' htn, sizeOf, typeInfo, hi, asInt, asIntOf, hw0, h5]
     exact fun h => by omega
    ·have hns : ¬ (m * inf.size = 0) := Nat.mul_ne_zero (by omega) (by omega)
     have e1 : (Builtin.zeroCells z.cells m).toList = List.replicate m z := by rw [hzc, zc_list]
     have hst2 : (storeCells ((⟨b, 0, none⟩ : Addr).add (k * inf.size)) (List.replicate m z)).run P w = .ok () (w.setRow b (cur.toList.take (0 + k * inf.size) ++ List.replicate m z ++ cur.toList.drop (0 + k * inf.size + m)).toArray) := by
      rw [add_none]
      simpa using hst
     simp [Builtin.append_, run_underlying' ht, run_underlying' htn, sizeOf, typeInfo, zeroValue, hi, hz, asInt, asIntOf, hwr, hroom, hneg, h48i, hns, e1, hst2]
   refine (run happ).mono fun v' w' ⟨e1, e2⟩ => ?_
   subst e1; subst e2
   have hkc : (cur.toList.take (0 + k * inf.size)) = xs := by rw [hm]; simpa using hct
   refine ⟨⟨by rw [List.length_append, hown.1]; simp, .inr ⟨b, cap, _, rfl, Nat.zero_le _, setRow_heap w b cur _ te _ hb, hroom, hc2, ?_, ?_⟩⟩, ⟨rfl, rfl, rfl, by simp, fun j _ hn => setRow_other w b j _ fun e => hn (by simp [oblk, e])⟩, .inl rfl⟩
   ·have h1 := hown.1
    have hcl : cur.toList.length = cur.size := Array.length_toList
    simp only [List.size_toArray, List.length_append, hkc, List.length_replicate, List.length_drop]
    rw [hm]
    omega
   ·rw [hkc]
    have h1 := hown.1
    rw [List.take_append_of_le_length (by simp; omega), List.take_of_length_le (by simp; omega)]
  ·have hold : (Builtin.firstCells inf.size k (vS b 0 k cap)).run P w.drew = .ok xs.toArray w.drew := by
    have ha : At w.drew b 0 xs := by
     rcases hown.at with ⟨h1, _⟩ | ⟨b', cap', h1, _, h2⟩
     ·cases h1
     ·cases h1; exact h2
    have := run_loadCells_list (P := P) w.drew ⟨b, 0, none⟩ xs (fun j u hj => by rw [add_none]; exact ha j u hj)
    simp only [Builtin.firstCells]
    rw [show k * inf.size = xs.length by rw [hown.1, hm]]
    exact this
   have hr := Lib.run_append_grow_zeros (P := P) w t tn ty te inf z kk kn ht htn hi hz (some ⟨b, 0, none⟩) k cap xs hold m (by omega) (by omega) (by omega) (by omega) (by omega) (growslice_fits (need := k + m) (old := cap) (by omega) hby)
   refine (run hr).mono fun v' w' ⟨e1, e2⟩ => ?_
   subst e1; subst e2
   obtain ⟨G, hG⟩ : ∃ G, G = grownCap w (k + m) cap te := ⟨_, rfl⟩
   have hGn : k + m ≤ grownCap w (k + m) cap te := grownCap_ge w _ _ _
   have hG63 := grownCap_le_maxLen w (k + m) cap te (by unfold maxLen; omega)
   rw [← hG] at hGn hG63 ⊢
   have hch : Ch [] w w.drew := ⟨rfl, rfl, rfl, Nat.le_refl _, fun _ _ _ => rfl⟩
   have hnb : NewB w.drew (w.drew.alloc (.cells (xs.toArray ++ Builtin.zeroCells z.cells m ++ Builtin.zeroCells z.cells (G - (k + m))) te)) w.heap.size _ te := ⟨rfl, rfl⟩
   have h1 := hown.1
   refine ⟨⟨by rw [List.length_append, hown.1]; simp, .inr ⟨_, G, _, rfl, Nat.zero_le _, (NewB.at hnb).2.1, hGn, hG63, ?_, ?_⟩⟩, ?_, .inr rfl⟩
   ·rw [hzc]
    simp only [Array.size_append, zc_size]
    simp; omega
   ·rw [hzc]
    simp only [Array.toList_append, zc_list, List.append_assoc]
    rw [← List.append_assoc, List.take_append_of_le_length (by simp; omega), List.take_of_length_le (by simp; omega)]
   ·exact (hch.trans hnb.ch).mono (by simp)
structure Az where
 te : TypeId
 a : Fk
 xs : List a.T
 q : a.T
 i : Int
 wr : Hp
 bytes : Nat
def isInt (P : Program) (t : TypeId) : Bool := match P.underlying t with
 | some (.int _) => true
 | _ => false
def oneK : (e : List Fk) → List (RT e) → Option (Σ a : Fk, List a.T)
 | [a], xs => some ⟨a, xs⟩
 | _, _ => none
def exAz (P : Program) (K : Kt) (L : DL) (H : Hp) (t tn : TypeId) (s x : Operand) : Option Az := bif isInt P tn then (match elemOf P t, opD L s, opD L x with
 | some te, some (.v (.slice none 0 0)), some (.v (.int _ i)) => (match P.info? te, lkK K te with
  | some inf, some [a] => (match inf.zero with
   | some z => bif Nat.beq inf.size 1 && z.oneCell' then (toF a (.v z)).map fun q => ⟨te, a, [], q, i, [], inf.bytes⟩ else none
   | none => none)
  | _, _ => none)
 | some te, some (.sk k), some (.v (.int _ i)) => (match P.info? te, lkH H k with
  | some inf, some (.sl te' e xs) => (match inf.zero, oneK e xs with
   | some z, some ⟨a, ys⟩ => bif Nat.beq inf.size 1 && z.oneCell' && Nat.beq te te' && Nat.beq e.length 1 then (toF a (.v z)).map fun q => ⟨te, a, ys, q, i, [(k, none)], inf.bytes⟩ else none
   | _, _ => none)
  | _, _ => none)
 | _, _, _ => none) else none
def Az.eff (A : Az) (nb : Nat) : Eff × List Prop := (⟨[], A.wr, [(nb, .sl A.te [A.a] (A.xs ++ List.replicate A.i.toNat A.q))], .sk nb⟩, [0 ≤ A.i, A.xs.length + A.i.toNat ≤ 9223372036854775807, (A.xs.length + A.i.toNat) * A.bytes ≤ 140737488355328])
theorem oneK_of : ∀ {e : List Fk} {xs : List (RT e)} {a : Fk} {ys : List a.T}, oneK e xs = some ⟨a, ys⟩ → e = [a] ∧ HEq xs ys
 | [a], xs, a', ys, h => by
  cases h
  exact ⟨rfl, HEq.rfl⟩
 | [], xs, a', ys, h => by cases h
 | _ :: _ :: _, xs, a', ys, h => by cases h
theorem exAz_ok {K : Kt} {L : DL} {H : Hp} {t tn : TypeId} {s x : Operand} {A : Az} {nb : Nat} (h : exAz P K L H t tn s x = some A) (hp : AllP (A.eff nb).2) : EOk P n ⟨ds, .call ⟨.builtin .append, #[s, x], #[t, tn]⟩, ty, pos, af, gu⟩ L (lkH H) (A.eff nb).1 := by
 have hI : ∃ kn, P.underlying tn = some (.int kn) := by
  unfold exAz at h
  cases hb : isInt P tn with
  | false => rw [hb] at h; cases h
  | true =>
   unfold isInt at hb
   split at hb
   ·rename_i kn hu; exact ⟨kn, hu⟩
   ·cases hb
 obtain ⟨kn, htn⟩ := hI
 obtain ⟨p1, p2, p3, _⟩ := hp
 intro ξ g w hS hH hn
 have hS' : HS (resH ([] ++ keys A.wr) (lkH H)) g w := hS
 have key : ∃ inf z v u kk, P.underlying t = some (.slice A.te) ∧ P.info? A.te = some inf ∧ inf.zero = some z ∧ inf.size = 1 ∧ z.oneCell' = true ∧ inf.bytes = A.bytes ∧ fS g.X g.N w A.a A.q z ∧ ev (exL L ξ) s = some v ∧ ev (exL L ξ) x = some u ∧ u = .int kk A.i ∧ (∃ ls, Own w 0 A.te 1 v A.xs.length ls.flatten ∧ Fa2 (rS g.X g.N w [A.a]) A.xs ls) ∧ ((A.wr = [] ∧ oblk v = []) ∨ ∃ k o, A.wr = [(k, none)] ∧ lkH H k = some o ∧ g.F k = oblk v) := by
  unfold exAz at h
  cases hb : isInt P tn with
  | false => rw [hb] at h; cases h
  | true =>
   rw [hb] at h
   simp only [cond_true] at h
   split at h
   ·rename_i te kk i he hs hx
    split at h
    ·rename_i inf a hi hk
     split at h
     ·rename_i z hz
      cases hc : Nat.beq inf.size 1 && z.oneCell' with
      | false => rw [hc] at h; cases h
      | true =>
       rw [hc] at h
       rw [Bool.and_eq_true] at hc
       obtain ⟨q, hq, rfl⟩ := Option.map_eq_some_iff.1 h
       exact ⟨inf, z, vN, _, kk, elemOf_of he, hi, hz, Nat.eq_of_beq_eq_true hc.1, hc.2, rfl, (toF_ok (X := g.X) (N := g.N) (w := w) (m := true) (v := z) (d := .v z) (show [z] = [z] from rfl) hq).1, opD_v hH hs, opD_v hH hx, rfl, ⟨[], ⟨by simp, .inl ⟨rfl, rfl⟩⟩, trivial⟩, .inl ⟨rfl, rfl⟩⟩
     ·cases h
    ·cases h
   ·rename_i te k kk i he hs hx
    split at h
    ·rename_i inf te' e xs hi hk
     split at h
     ·rename_i z a ys hz ho
      cases hc : Nat.beq inf.size 1 && z.oneCell' && Nat.beq te te' && Nat.beq e.length 1 with
      | false => rw [hc] at h; cases h
      | true =>
       rw [hc] at h
       simp only [Bool.and_eq_true] at hc
       obtain ⟨⟨⟨c1, c2⟩, c3⟩, c4⟩ := hc
       have := Nat.eq_of_beq_eq_true c3
       subst this
       obtain ⟨q, hq, rfl⟩ := Option.map_eq_some_iff.1 h
       obtain ⟨rfl, hh⟩ := oneK_of ho
       have hh2 : xs = ys := eq_of_heq hh
       subst hh2
       obtain ⟨v, hv, v', h1, h2, _⟩ := opD_ev hH hs
       cases (List.cons.inj h2).1
       obtain ⟨v2, ls, k1, k2, k3, k4, k5, k6⟩ := hS'.os k _ (by simp only [resH, memN_iff.2 (show k ∈ [] ++ keys [(k, (none : Option O))] by simp [keys])]; exact hk)
       rw [h1] at k1
       cases k1
       exact ⟨inf, z, v, _, kk, elemOf_of he, hi, hz, Nat.eq_of_beq_eq_true c1, c2, rfl, (toF_ok (X := g.X) (N := g.N) (w := w) (m := true) (v := z) (d := .v z) (show [z] = [z] from rfl) hq).1, hv, opD_v hH hx, rfl, ⟨ls, k3, k5⟩, .inr ⟨k, _, rfl, hk, k2⟩⟩
     ·cases h
    ·cases h
   ·cases h
 obtain ⟨inf, z, v, u, kk, ht, hi, hz, h1, h2, hb, hf, hv, hu, rfl, ⟨ls, o1, o2⟩, hwr⟩ := key
 obtain ⟨m, hm⟩ := Int.eq_ofNat_of_zero_le p1
 rw [hm] at hu p2 p3
 simp only [Int.toNat_natCast] at p2 p3
 have hfl : ∀ k : Nat, Fa2 (rS g.X g.N w [A.a]) (List.replicate k A.q) (List.replicate k [z]) := by
  intro k
  induction k with
  | zero => trivial
  | succ k ih => exact ⟨⟨z, rfl, hf⟩, ih⟩
 have hfl2 : ∀ k : Nat, List.replicate k z = (List.replicate k [z]).flatten := by
  intro k
  induction k with
  | zero => rfl
  | succ k ih => simp [List.replicate_succ, ← ih]
 have hft : ∀ b ∈ oblk v, Eff.foot (A.eff nb).1 (lkH H) g b := fun b hb => by
  rcases hwr with ⟨_, h0⟩ | ⟨k, o, e1, e2, e3⟩
  ·rw [h0] at hb; simp at hb
  ·exact ⟨k, by simp [Az.eff, e1, keys], o, e2, by rw [e3]; exact hb⟩
 have hkw : nb ∉ keys A.wr := fun hk => by
  rcases hwr with ⟨h0, _⟩ | ⟨k, o, e1, e2, e3⟩
  ·rw [h0] at hk; simp [keys] at hk
  ·rw [e1] at hk
   simp only [keys, List.map_cons, List.map_nil, List.mem_singleton] at hk
   subst hk
   have hos : OS g w nb o := hS'.os nb o (by simp only [resH, memN_iff.2 (show nb ∈ [] ++ keys A.wr by simp [e1, keys])]; exact e2)
   have hN : g.N nb = none := hn (nb, _) (List.mem_singleton.2 rfl)
   cases o with
   | ob ty ds => obtain ⟨b, c, k1, _⟩ := hos; rw [hN] at k1; cases k1
   | sl ty e xs => obtain ⟨b, c, k1, _⟩ := hos; rw [hN] at k1; cases k1
 have hmi : A.i.toNat = m := by rw [hm]; rfl
 refine (ok_appZ ht htn hi hz h1 h2 hv hu o1 p2 (by rw [hb]; exact p3)).mono fun v' w' ⟨q1, q2, q3⟩ => ?_
 have hfa : Fa2 (rS g.X g.N w [A.a]) (A.xs ++ List.replicate m A.q) (ls ++ List.replicate m [z]) := Fa2.append (α := RT [A.a]) o2 (hfl m)
 refine Post.new (u := v') (F := oblk v') hS' (hn (nb, _) (List.mem_singleton.2 rfl)) (fun p hp => ?_) hkw ⟨q2.os, q2.tape, q2.output, q2.size, fun b hb hnf => q2.blk b hb fun hm => hnf (hft b hm)⟩ (fun b hb => ⟨?_, (q1.lt b hb).2⟩) fun g' hg hN hF => ⟨⟨v', ls ++ List.replicate m [z], hN, hF, ?_, ?_, ?_, rows_one hfa⟩, ⟨v', hN, rfl, ?_⟩⟩
 ·rcases hwr with ⟨h0, _⟩ | ⟨k, o, e1, _⟩
  ·rw [h0] at hp; simp at hp
  ·rw [e1] at hp; simp at hp; rw [hp]
 ·rcases q3 with q3 | q3
  ·rw [q3] at hb; exact .inl (hft b hb)
  ·rw [q3] at hb; simp at hb; exact .inr (by omega)
 ·have e3 : (A.xs ++ List.replicate m A.q).length = A.xs.length + m := by simp
  rw [hmi, List.flatten_append, ← hfl2]
  show Own w' 0 A.te 1 v' (A.xs ++ List.replicate m A.q).length _
  rw [e3]
  exact q1
 ·have e3 : (A.xs ++ List.replicate m A.q).length = A.xs.length + m := by simp
  rw [hmi]
  show (A.xs ++ List.replicate m A.q).length ≤ maxLen
  rw [e3]
  simp only [maxLen]; omega
 ·rw [hmi]; exact hfa.mono (rS_mv hg.goes [A.a])
 ·rcases q1.at with ⟨rfl, _⟩ | ⟨b, cap, rfl, _⟩ <;> rfl
end
end Go.Sx
namespace Go.Sx
open Go.Mi Go.RowKit
variable [Dfr]
def cpA (kk : IntKind) (n : Nat) (xs : List Int) : List D → Nat → Option (List D)
 | [], _ => none
 | d :: ds, o => bif Nat.ble (szD d) o then (cpA kk n xs ds (o - szD d)).map (d :: ·) else match d with
  | .ar k N f => bif eqK kk k && Nat.ble (o + n) N then some (.ar k N (updW f o (min xs.length n) fun j => xs.getD j 0) :: ds) else none
  | _ => none
def intsOf (kk : IntKind) : (e : List Fk) → List (RT e) → Option (List Int)
 | [.int k], xs => bif eqK kk k then some xs else none
 | _, _ => none
theorem intsOf_of {kk : IntKind} : ∀ {e : List Fk} {xs : List (RT e)} {ys : List Int}, intsOf kk e xs = some ys → e = [.int kk] ∧ HEq xs ys
 | [.int k], xs, ys, h => by
  simp only [intsOf] at h
  cases hk : eqK kk k with
  | false => rw [hk] at h; cases h
  | true =>
   rw [hk] at h
   obtain rfl := of_decide_eq_true hk
   cases h
   exact ⟨rfl, HEq.rfl⟩
section
variable {P : Program} {n : Nat} {L : DL} {ds : Option Nat} {ty : TypeId} {pos : String} {af : Array Edge} {gu : Option (Nat × Bool)} {g g' : G} {w w' : World} {H : Hp}
theorem Post.res {F : Nat → Option O} {rd rd' : List Nat} {wr : Hp} {nw : List (Nat × O)} {r d : D} {v u : Value} (h : Post F ⟨rd, wr, nw, r⟩ g w v g' w') (hd : Sm g' w' d u) : Post F ⟨rd', wr, nw, d⟩ g w u g' w' := ⟨h.go, hd, h.hs, h.fp, h.nm⟩
theorem Post.same {F : Nat → Option O} {k : Nat} {o o' : O} {v : Value} (hS : HS (resH [k] F) g w) (hk : F k = some o) (ho : OS g w k o') : Post F ⟨[], [(k, some o')], [], .top⟩ g w v g w := by
 have hk' : resH [k] F k = some o := by simp [resH, memN, hk]
 have e1 : ∀ j q, lkH (Eff.outs ⟨[], [(k, some o')], [], .top⟩) j = some q → j = k ∧ q = o' := fun j q h => by
  simp only [Eff.outs, List.map_nil, List.append_nil, lkH, lkO] at h
  by_cases e : k = j
  ·subst e; simp at h; exact ⟨rfl, h.symm⟩
  ·rw [beqf e] at h; cases h
 have hft : ∀ x, x ∈ g.F k → Eff.foot ⟨[], [(k, some o')], [], .top⟩ F g x := fun x hx => ⟨k, by simp [keys], o, hk, hx⟩
 have hft2 : ∀ x, Eff.foot ⟨[], [(k, some o')], [], .top⟩ F g x → x ∈ g.F k := fun x ⟨j, h1, q, h2, h3⟩ => by
  simp only [keys, List.map_cons, List.map_nil, List.mem_singleton] at h1
  subst h1; exact h3
 refine ⟨Go.refl _ _ _ fun x hx => hS.own k o hk' x (hft2 x hx), ⟨v, rfl⟩, ⟨hS.wf, fun j q h => ?_, fun j q h x hx => ?_, fun j q j' q' h h' hne => ?_⟩, fun j q h x hx => ?_, fun j u h => .inl h⟩
 ·obtain ⟨rfl, rfl⟩ := e1 j q h; exact ho
 ·obtain ⟨rfl, rfl⟩ := e1 j q h; exact hS.own j o hk' x hx
 ·exact absurd ((e1 j q h).1.trans (e1 j' q' h').1.symm) hne
 ·obtain ⟨rfl, rfl⟩ := e1 j q h; exact .inl (hft x hx)
theorem flat_take1 {α : Type} : ∀ {ls : List (List α)} (k : Nat), (∀ l ∈ ls, l.length = 1) → (ls.take k).flatten = ls.flatten.take k
 | [], k, _ => by simp
 | l :: ls, 0, _ => by simp
 | l :: ls, k + 1, h => by
  obtain ⟨a, rfl⟩ := List.length_eq_one_iff.1 (h l (List.mem_cons_self ..))
  simp [flat_take1 k fun l hl => h l (List.mem_cons_of_mem _ hl)]
theorem flat_drop1 {α : Type} : ∀ {ls : List (List α)} (k : Nat), (∀ l ∈ ls, l.length = 1) → (ls.drop k).flatten = ls.flatten.drop k
 | [], k, _ => by simp
 | l :: ls, 0, _ => by simp
 | l :: ls, k + 1, h => by
  obtain ⟨a, rfl⟩ := List.length_eq_one_iff.1 (h l (List.mem_cons_self ..))
  simp [flat_drop1 k fun l hl => h l (List.mem_cons_of_mem _ hl)]
theorem Src.ints {kk : IntKind} {e : List Fk} {xs : List (RT e)} {ys : List Int} {v : Value} (h : Src g w e xs v) (hc : intsOf kk e xs = some ys) : Src g w [.int kk] (ys : List (RT [.int kk])) v := by
 obtain ⟨rfl, h2⟩ := intsOf_of hc
 have h3 : xs = ys := eq_of_heq h2
 exact h3 ▸ h
theorem cpA_ok {X : Nat → Prop} {N : Nat → Option Value} {kk : IntKind} {m : Nat} {xs : List Int} : ∀ {ss : List D} {o : Nat} {r : List D} {l : List Value}, semS X N w ss l → cpA kk m xs ss o = some r → semS X N w r (l.take o ++ (xs.take (min xs.length m)).map (Value.int kk) ++ l.drop (o + min xs.length m)) ∧ o + m ≤ l.length
 | [], o, r, l, _, hp => by simp [cpA] at hp
 | d :: ss, o, r, l, ⟨l1, l2, e', h1, h2⟩, hp => by
  subst e'
  have hl := sem_len h1
  simp only [cpA] at hp
  cases hb : Nat.ble (szD d) o with
  | true =>
   rw [hb] at hp
   have hle := Nat.le_of_ble_eq_true hb
   obtain ⟨r', hr, rfl⟩ := Option.map_eq_some_iff.1 hp
   obtain ⟨k1, k2⟩ := cpA_ok h2 hr
   refine ⟨⟨l1, _, ?_, h1, k1⟩, by simp; omega⟩
   rw [List.take_append, List.take_of_length_le (by omega), List.drop_append, List.drop_eq_nil_of_le (by omega), hl]
   simp only [List.nil_append, List.append_assoc]
   rw [show o + min xs.length m - szD d = o - szD d + min xs.length m by omega]
  | false =>
   rw [hb] at hp
   simp only [cond_false] at hp
   cases d with
   | ar k N' f =>
    simp only at hp
    have h1' : l1 = cells k N' f := h1
    have hn : l1.length = N' := by rw [h1', cells_len]
    cases hc : eqK kk k && Nat.ble (o + m) N' with
    | false => rw [hc] at hp; cases hp
    | true =>
     rw [hc] at hp
     rw [Bool.and_eq_true] at hc
     obtain rfl := of_decide_eq_true hc.1
     have hle := Nat.le_of_ble_eq_true hc.2
     simp only [cond_true, Option.some.injEq] at hp
     subst hp
     refine ⟨⟨l1.take o ++ (xs.take (min xs.length m)).map (Value.int kk) ++ l1.drop (o + min xs.length m), l2, ?_, ?_, h2⟩, by simp; omega⟩
     ·rw [List.take_append_of_le_length (by omega), List.drop_append_of_le_length (by omega)]
      simp
     ·show _ = cells kk N' _
      rw [h1']
      apply List.ext_getElem?
      intro j
      by_cases hj : j < N'
      ·rw [cells_get hj, List.append_assoc, List.getElem?_append, List.length_take, cells_len, Nat.min_eq_left (by omega)]
       by_cases h3 : j < o
       ·rw [if_pos h3, List.getElem?_take, if_pos h3, cells_get hj]
        have : Nat.ble o j = false := by
         cases hb : Nat.ble o j with
         | false => rfl
         | true => have := Nat.le_of_ble_eq_true hb; omega
        simp [updW, this]
       ·rw [if_neg h3, List.getElem?_append, List.length_map, List.length_take, Nat.min_eq_left (by omega)]
        by_cases h4 : j < o + min xs.length m
        ·rw [if_pos (by omega), List.getElem?_map, List.getElem?_take, if_pos (by omega)]
         have h5 : Nat.ble o j = true := Nat.ble_eq_true_of_le (by omega)
         have h6 : Nat.blt j (o + min xs.length m) = true := by rw [Nat.blt_eq]; exact h4
         have h7 : j - o < xs.length := by omega
         simp [updW, h5, h6, List.getElem?_eq_getElem h7, List.getD]
        ·rw [if_neg (by omega), List.getElem?_drop, show o + min xs.length m + (j - o - min xs.length m) = j by omega, cells_get hj]
         have h6 : Nat.blt j (o + min xs.length m) = false := by
          cases hb : Nat.blt j (o + min xs.length m) with
          | false => rfl
          | true => rw [Nat.blt_eq] at hb; omega
         simp [updW, h6]
      ·rw [List.getElem?_eq_none (by simp [cells_len]; omega), List.getElem?_eq_none (by rw [cells_len]; omega)]
   | _ => simp at hp
structure Cp where
 k : Nat
 rd : List Nat
 o : O
 n : Int
def exCp (P : Program) (L : DL) (H : Hp) (t : TypeId) (x y : Operand) : Option Cp := match sInf P t, opD L x, (opD L y).bind (srcD H) with
 | some 1, some (.sv k o m), some q => (match lkH H k with
  | some (.ob ty d) => bif memN k q.rd then none else (match segs d, q.e with
   | ss, [.int kk] => (intsOf kk q.e q.xs).bind fun xs => (cpA kk m xs ss o).map fun r => ⟨k, q.rd, .ob ty (chain r), ((min xs.length m : Nat) : Int)⟩
   | _, _ => none)
  | _ => none)
 | some 1, some (.sk k), some q => (match lkH H k with
  | some (.sl te e xs) => bif memN k q.rd || !(Nat.beq e.length 1) then none else (castR q.e e q.xs).map fun ys => ⟨k, q.rd, .sl te e (ys.take xs.length ++ xs.drop ys.length), ((min ys.length xs.length : Nat) : Int)⟩
  | _ => none)
 | _, _, _ => none
def Cp.eff (c : Cp) : Eff := ⟨c.rd, [(c.k, some c.o)], [], .v (.int .i64 c.n)⟩
theorem ok_copy {x y : Operand} {t t' te : TypeId} {b o len cap T : Nat} {cur : Array Value} {v : Value} {e : List Fk} {ys : List (RT e)} {Lv : List (Nat × Value)} (ht : P.underlying t = some (.slice te)) (hs : (P.info? te).map (·.size) = some 1) (he : e.length = 1) (hx : ev Lv x = some (vS b o len cap)) (hy : ev Lv y = some v) (hsr : Src g w e ys v) (hb : w.heap[b]? = some (.cells cur T (0, 0))) (hc : o + len ≤ cur.size) :
  Ok1 P ⟨ds, .call ⟨.builtin .copy, #[x, y], #[t, t']⟩, ty, pos, af, gu⟩ n Lv w fun v' w' => v' = .int .i64 ((min ys.length len : Nat) : Int) ∧ ∃ ls, Fa2 (rS g.X g.N w e) ys ls ∧ Upd w w' b (put cur o (ls.flatten.take (min ys.length len))) T := by
 cases hsr with
 | nil h1 h2 =>
  subst h1; subst h2
  have hr := run_copy_nil P w t t' ty te ⟨b, o, none⟩ len cap ht (by rw [hs]; rfl)
  have hd : Det P ⟨ds, .call ⟨.builtin .copy, #[x, y], #[t, t']⟩, ty, pos, af, gu⟩ n Lv w (.int .i64 0) w := Det.of_run fun a hF => by
   simp [execOp, hF.eval hx, hF.eval hy, resolve, invoke, builtin, hr, goInt]
  refine hd.mono fun v' w' ⟨e1, e2⟩ => ?_
  subst e1; subst e2
  refine ⟨by simp, [], trivial, ?_⟩
  have : put cur o ((([] : List (List Value)).flatten).take (min ([] : List (RT e)).length len)) = cur := by
   apply Array.ext'
   rw [put_toList]
   simp
  rw [this]
  exact Upd.refl hb
 | «at» b' o' c' ls h1 h2 h3 =>
  subst h1
  have hml : ls.flatten.length = ys.length := by rw [flat_len h3.row, h3.len, he, Nat.mul_one]
  have hcs : (ls.flatten.take (min ys.length len)).length = min ys.length len := by rw [List.length_take, hml]; omega
  have hr := run_copy_row P w t t' ty te b o len cap ⟨b', o', none⟩ ys.length c' cur T (ls.flatten.take (min ys.length len)) ht hs hb (by rw [hcs]) (fun j u hj => by
   rw [add_none]
   rw [List.getElem?_take] at hj
   split at hj
   ·exact h2 j u hj
   ·cases hj) (by rw [hcs]; omega) (fun u hu => rows_one h3 u (List.mem_of_mem_take hu))
  have hd : Det P ⟨ds, .call ⟨.builtin .copy, #[x, y], #[t, t']⟩, ty, pos, af, gu⟩ n Lv w (.int .i64 ((min ys.length len : Nat) : Int)) (w.setRow b (put cur o (ls.flatten.take (min ys.length len)))) := Det.of_run fun a hF => by
   simp [execOp, hF.eval hx, hF.eval hy, resolve, invoke, builtin, hr, goInt, hcs, put]
  refine hd.mono fun v' w' ⟨e1, e2⟩ => ?_
  subst e1; subst e2
  exact ⟨rfl, ls, h3, upd_setRow hb _⟩
theorem exCp_ok {t t' : TypeId} {x y : Operand} {c : Cp} (h : exCp P L H t x y = some c) : EOk P n ⟨ds, .call ⟨.builtin .copy, #[x, y], #[t, t']⟩, ty, pos, af, gu⟩ L (lkH H) c.eff := by
 intro ξ g w hS hH _
 unfold exCp at h
 split at h
 ·rename_i k o m q hsi hx hq
  obtain ⟨te, u1, u2⟩ := sInf_of hsi
  split at h
  ·rename_i T d hk
   cases hm : memN k q.rd with
   | true => rw [hm] at h; cases h
   | false =>
    rw [hm] at h
    simp only [cond_false] at h
    split at h
    ·rename_i kk he
     obtain ⟨xs, h1, h2⟩ := Option.bind_eq_some_iff.1 h
     obtain ⟨r, h3, rfl⟩ := Option.map_eq_some_iff.1 h2
     have hS1 : HS (resH (q.rd ++ [k]) (lkH H)) g w := hS
     have obj : ∀ j o, j ∈ q.rd ++ [k] → lkH H j = some o → OS g w j o := fun j o hj ho => hS1.os j o (by simp only [resH, memN_iff.2 hj]; exact ho)
     obtain ⟨dy, hy1, hy2⟩ := Option.bind_eq_some_iff.1 hq
     obtain ⟨u, hu, hus⟩ := opD_ev hH hy1
     have hsr := srcD_ok (fun j o hj ho => obj j o (List.mem_append_left _ hj) ho) hy2 hus
     obtain ⟨v, hv, b, cc, e1, e2, e3, e4⟩ := opD_ev hH hx
     cases (List.cons.inj e2).1
     obtain ⟨b', c, k1, k2, k3, k4, k5⟩ := obj k _ (by simp) hk
     rw [k1] at e1
     cases e1
     obtain ⟨p1, p2⟩ := cpA_ok (sem_segs k4) h3
     have hsr' := hsr.ints h1
     refine (ok_copy (e := [.int kk]) (ys := (xs : List (RT [.int kk]))) u1 u2 rfl hv hu hsr' k3 (by simpa using p2)).mono fun v' w' ⟨q1, ls, q2, q3⟩ => ⟨g, Post.res (rd := []) (r := .top) (v := v') (Post.upd (hS1.sub fun j o hj => ?_) hk k2 q3 fun w' hgo hb => ?_) (by subst q1; rfl)⟩
     ·simp only [resH, memN] at hj ⊢
      by_cases e : j = k
      ·subst e; simp at hj; rw [memN_iff.2 (by simp)]; exact hj
      ·rw [beqf e] at hj; cases hj
     ·obtain ⟨vs, rfl, h4⟩ := rows1' q2
      have hvs : vs = xs.map (Value.int kk) := ints_of h4
      have e5 : ((vs.map fun v => [v]).flatten.take (min xs.length m)) = (xs.take (min xs.length m)).map (Value.int kk) := by rw [flat1 rfl, hvs, List.map_take]
      have e6 : ((xs.take (min xs.length m)).map (Value.int kk)).length = min xs.length m := by simp
      refine ⟨_, _, k1, k2, hb, ?_, ?_⟩
      ·rw [put_toList]
       show sem g.X g.N w' (chain r) false (c.toList.take o ++ ((vs.map fun v => [v]).flatten.take (min xs.length m)) ++ c.toList.drop (o + ((vs.map fun v => [v]).flatten.take (min xs.length m)).length))
       rw [e5, e6]
       exact sem_mv hgo.goes _ _ _ (sem_chain.2 p1)
      ·intro z hz
       rw [put_toList] at hz
       have hz : z ∈ c.toList.take o ++ ((vs.map fun v => [v]).flatten.take (min xs.length m)) ++ c.toList.drop (o + ((vs.map fun v => [v]).flatten.take (min xs.length m)).length) := hz
       rw [e5] at hz
       rcases List.mem_append.1 hz with hz | hz
       ·rcases List.mem_append.1 hz with hz | hz
        ·exact k5 z (List.mem_of_mem_take hz)
        ·obtain ⟨_, _, rfl⟩ := List.mem_map.1 hz
         rfl
       ·exact k5 z (List.mem_of_mem_drop hz)
    ·cases h
  ·cases h
 ·rename_i k q hsi hx hq
  obtain ⟨te, u1, u2⟩ := sInf_of hsi
  split at h
  ·rename_i T e xs hk
   cases hm : memN k q.rd || !(Nat.beq e.length 1) with
   | true => rw [hm] at h; cases h
   | false =>
    rw [hm] at h
    simp only [Bool.or_eq_false_iff, Bool.not_eq_false'] at hm
    have he1 := Nat.eq_of_beq_eq_true hm.2
    simp only [cond_false] at h
    obtain ⟨ys, h1, rfl⟩ := Option.map_eq_some_iff.1 h
    have hS1 : HS (resH (q.rd ++ [k]) (lkH H)) g w := hS
    have obj : ∀ j o, j ∈ q.rd ++ [k] → lkH H j = some o → OS g w j o := fun j o hj ho => hS1.os j o (by simp only [resH, memN_iff.2 hj]; exact ho)
    obtain ⟨dy, hy1, hy2⟩ := Option.bind_eq_some_iff.1 hq
    obtain ⟨u, hu, hus⟩ := opD_ev hH hy1
    have hsr := (srcD_ok (fun j o hj ho => obj j o (List.mem_append_left _ hj) ho) hy2 hus).cast h1
    obtain ⟨v, hv, v', e1, e2, _⟩ := opD_ev hH hx
    cases (List.cons.inj e2).1
    obtain ⟨v2, ls, k1, k2, k3, k4, k5, k6⟩ := obj k _ (by simp) hk
    rw [e1] at k1
    cases k1
    rcases k3.2 with ⟨rfl, h0⟩ | ⟨b, cap, cur, rfl, _, hb, hc, hc2, hcs, hct⟩
    ·have hx0 : xs = [] := List.eq_nil_of_length_eq_zero h0
     subst hx0
     have hd : Det P ⟨ds, .call ⟨.builtin .copy, #[x, y], #[t, t']⟩, ty, pos, af, gu⟩ n (exL L ξ) w (.int .i64 0) w := Det.of_run fun a hF => by
      obtain ⟨inf, hi, hz⟩ := Option.map_eq_some_iff.1 u2
      cases hsr with
      | nil h1 h2 => subst h1; simp [execOp, hF.eval hv, hF.eval hu, resolve, invoke, builtin, Builtin.copy_, run_underlying' u1, Builtin.lenOf, Builtin.firstCells, sizeOf, typeInfo, hi, goInt]
      | «at» b o c ls h1 h2 h3 =>
       subst h1
       have hl : (loadCells ⟨b, o, none⟩ 0).run P w = .ok #[] w := rfl
       simp [execOp, hF.eval hv, hF.eval hu, resolve, invoke, builtin, Builtin.copy_, run_underlying' u1, Builtin.lenOf, Builtin.firstCells, sizeOf, typeInfo, hi, goInt, hl]
     refine hd.mono fun v' w' ⟨q1, q2⟩ => ⟨g, ?_⟩
     subst q2
     refine Post.res (rd := []) (r := .top) (v := v') (Post.same (hS1.sub fun j o hj => ?_) hk ⟨_, ls, e1, k2, ?_, by simp, ?_, k6⟩) (by subst q1; simp; rfl)
     ·simp only [resH, memN] at hj ⊢
      by_cases e : j = k
      ·subst e; simp at hj; rw [memN_iff.2 (by simp)]; exact hj
      ·rw [beqf e] at hj; cases hj
     ·simpa using k3
     ·simpa using k5
    ·have hfit : 0 + xs.length ≤ cur.size := by rw [hcs, he1]; omega
     refine (ok_copy u1 u2 he1 hv hu hsr hb hfit).mono fun v' w' ⟨q1, ms, q2, q3⟩ => ⟨g, Post.res (rd := []) (r := .top) (v := v') (Post.upd (hS1.sub fun j o hj => ?_) hk (by rw [k2]; rfl) q3 fun w' hgo hb' => ?_) (by subst q1; rfl)⟩
     ·simp only [resH, memN] at hj ⊢
      by_cases e : j = k
      ·subst e; simp at hj; rw [memN_iff.2 (by simp)]; exact hj
      ·rw [beqf e] at hj; cases hj
     ·have hr1 : ∀ l ∈ ls, l.length = 1 := fun l hl => by rw [k5.row l hl, he1]
      have hr2 : ∀ l ∈ ms, l.length = 1 := fun l hl => by rw [q2.row l hl, he1]
      have hL : (ys.take xs.length ++ xs.drop ys.length).length = xs.length := by simp; omega
      have hfl : (ms.take xs.length ++ ls.drop ys.length).flatten = (put cur 0 (ms.flatten.take (min ys.length xs.length))).toList.take (xs.length * e.length) := by
       rw [put_toList, List.flatten_append, flat_take1 _ hr2, flat_drop1 _ hr1, he1, Nat.mul_one]
       have hml : ms.flatten.length = ys.length := by rw [flat_len hr2, Nat.mul_one, q2.len]
       have hlm : ls.flatten.length = xs.length := by rw [flat_len hr1, Nat.mul_one, k5.len]
       have hcur : cur.toList = ls.flatten ++ cur.toList.drop xs.length := by
        have := hct
        rw [he1, Nat.mul_one] at this
        rw [← this, List.take_append_drop]
       have e7 : ms.flatten.take xs.length = ms.flatten.take (min ys.length xs.length) := by
        rw [← hml, Nat.min_comm, ← List.take_take, List.take_length]
       have e8 : (ms.flatten.take (min ys.length xs.length)).length = min ys.length xs.length := by rw [List.length_take, hml]; omega
       rw [e7, e8, Nat.zero_add, List.take_zero, List.nil_append]
       have t1 : (ms.flatten.take (min ys.length xs.length) ++ cur.toList.drop (min ys.length xs.length)).take xs.length = ms.flatten.take (min ys.length xs.length) ++ (cur.toList.drop (min ys.length xs.length)).take (xs.length - min ys.length xs.length) := by
        rw [List.take_append, List.take_of_length_le (l := ms.flatten.take (min ys.length xs.length)) (by omega), e8]
       have t2 : (cur.toList.drop (min ys.length xs.length)).take (xs.length - min ys.length xs.length) = ls.flatten.drop ys.length := by
        have hld : (ls.flatten.drop (min ys.length xs.length)).length = xs.length - min ys.length xs.length := by rw [List.length_drop, hlm]
        rw [hcur, List.drop_append_of_le_length (by omega), List.take_append_of_le_length (by omega), List.take_of_length_le (l := ls.flatten.drop (min ys.length xs.length)) (by omega)]
        by_cases hle : ys.length ≤ xs.length
        ·rw [Nat.min_eq_left hle]
        ·rw [Nat.min_eq_right (by omega), List.drop_eq_nil_of_le (by omega), List.drop_eq_nil_of_le (by omega)]
       rw [t1, t2]
      have hFa : Fa2 (rS g.X g.N w e) (ys.take xs.length ++ xs.drop ys.length) (ms.take xs.length ++ ls.drop ys.length) := (q2.take _).append (k5.drop _)
      have hps : (put cur 0 (ms.flatten.take (min ys.length xs.length))).size = cur.size := put_size (by rw [List.length_take]; omega)
      have hpl : (put cur 0 (ms.flatten.take (min ys.length xs.length))).toList.length = cur.size := by rw [Array.length_toList, hps]
      have hFl : (ms.take xs.length ++ ls.drop ys.length).flatten.length = xs.length * e.length := by
       rw [hfl, List.length_take, hpl, hcs]
       exact Nat.min_eq_left (Nat.mul_le_mul_right _ hc)
      exact ⟨_, _, e1, k2, ⟨by rw [hFl, hL], .inr ⟨b, cap, _, by rw [hL], Nat.zero_le _, hb', by rw [hL]; exact hc, hc2, by rw [hps]; exact hcs, by rw [hL]; exact hfl.symm⟩⟩, by rw [hL]; exact k4, hFa.mono (rS_mv hgo.goes e), rows_one hFa⟩
  ·cases h
 ·cases h
end
end Go.Sx
namespace Go.Sx
open Go.Mi Go.RowKit
variable [Dfr]
def exCap (P : Program) (L : DL) (t : TypeId) (x : Operand) : Option (D × List Prop) := match opD L x, P.underlying t with
 | some (.v (.slice none 0 0)), some (.slice _) => some (.v (.int .i64 0), [])
 | _, _ => none
def strInts (s : ByteArray) : List Int := s.data.toList.map fun b => (b.toNat : Int)
def u8S (P : Program) (t : TypeId) : Option TypeId := match P.underlying t with
 | some (.slice te) => (match P.underlying te with
  | some (.int .u8) => some te
  | _ => none)
 | _ => none
theorem u8S_of {P : Program} {t te : TypeId} (h : u8S P t = some te) : P.underlying t = some (.slice te) ∧ P.underlying te = some (.int .u8) := by
 unfold u8S at h
 split at h
 ·rename_i te' h1
  split at h
  ·rename_i h2; cases h; exact ⟨h1, h2⟩
  ·cases h
 ·cases h
def exMark (P : Program) (L : DL) (H : Hp) (s t : TypeId) (x : Operand) : Option (Eff × List Prop) := match opD L x, u8S P t with
 | some (.sk k), some te => bif Nat.beq s t then (match lkH H k with
  | some (.sl _ [.int .u8] xs) => some (⟨[], [(k, none)], [], .ls true [.int .u8] xs⟩, [0 < xs.length])
  | _ => none) else none
 | _, _ => none
def exBy (P : Program) (L : DL) (s t : TypeId) (x : Operand) : Option (Eff × List Prop) := match opD L x, P.underlying s, u8S P t with
 | some (.v (.string b)), some .string, some te => some (⟨[], [], [], .ls true [.int .u8] (strInts b)⟩, [b.size ≤ 140737488355328])
 | _, _, _ => none
section
variable {P : Program} {n : Nat} {L : DL} {ds : Option Nat} {ty : TypeId} {pos : String} {af : Array Edge} {gu : Option (Nat × Bool)} {g g' : G} {w w' : World} {H : Hp}
theorem exCap_ok {t : TypeId} {x : Operand} {d : D} {ps : List Prop} (h : exCap P L t x = some (d, ps)) : PureOk P n ⟨ds, .call ⟨.builtin .cap, #[x], #[t]⟩, ty, pos, af, gu⟩ L d ps := by
 intro hp ξ g w hH _
 unfold exCap at h
 split at h
 ·rename_i e hx hu
  simp only [Option.some.injEq, Prod.mk.injEq] at h
  obtain ⟨rfl, rfl⟩ := h
  have hv := opD_v hH hx
  exact ⟨_, rfl, Det.of_run fun a hF => by simp [execOp, hF.eval hv, resolve, invoke, builtin, Builtin.cap_, run_underlying' hu, goInt]⟩
 ·cases h
theorem freeze_at {b : Nat} {k : Nat} {cur : Array Value} {te : TypeId} (hb : w.heap[b]? = some (.cells cur te (0, 0))) : (w.freeze ⟨b, k, none⟩ 1).heap[b]? = some (.cells cur te (k, k + 1)) ∧ Chp (· = b) w (w.freeze ⟨b, k, none⟩ 1) := by
 have hlt : b < w.heap.size := by
  rcases Nat.lt_or_ge b w.heap.size with h' | h'
  ·exact h'
  ·rw [Array.getElem?_eq_none h'] at hb; cases hb
 refine ⟨?_, ⟨rfl, rfl, rfl, by simp [World.freeze], fun j hj hn => ?_⟩⟩
 ·simp only [World.freeze]
  rw [if_neg (by decide)]
  simp only [Array.getElem?_modify, if_pos trivial, hb]
  rfl
 ·simp only [World.freeze]
  rw [if_neg (by decide)]
  have : ¬ b = j := fun h => hn h.symm
  simp only [Array.getElem?_modify, if_neg this]
theorem exMark_ok {s t : TypeId} {x : Operand} {e : Eff} {ps : List Prop} (h : exMark P L H s t x = some (e, ps)) (hp : AllP ps) : EOk P n ⟨ds, .convert s t x, ty, pos, af, gu⟩ L (lkH H) e := by
 intro ξ g w hS hH hn
 unfold exMark at h
 split at h
 ·rename_i k te hx hu
  cases hst : Nat.beq s t with
  | false => rw [hst] at h; cases h
  | true =>
   rw [hst] at h
   obtain rfl := Nat.eq_of_beq_eq_true hst
   simp only [cond_true] at h
   split at h
   ·rename_i te' xs hk
    cases h
    obtain ⟨u1, u2⟩ := u8S_of hu
    obtain ⟨v, hv, v', h1, h2, _⟩ := opD_ev hH hx
    cases (List.cons.inj h2).1
    have hkk : resH ([] ++ keys [(k, (none : Option O))]) (lkH H) k = some (.sl te' [.int .u8] xs) := by simp [resH, keys, memN, hk]
    obtain ⟨v2, ls, k1, k2, k3, k4, k5, k6⟩ := hS.os k _ hkk
    rw [h1] at k1
    cases k1
    rcases k3.2 with ⟨rfl, h0⟩ | ⟨b, cap, cur, rfl, _, hb, hc, hc2, hcs, hct⟩
    ·have := hp.1; omega
    ·have hm : w.shape? b = some (te', cur.size) := by simp [World.shape?, hb]
     obtain ⟨q1, q2⟩ := freeze_at (k := cur.size) hb
     have hbF : b ∈ g.F k := by rw [k2]; simp [oblk]
     have hd : Det P ⟨ds, .convert s s x, ty, pos, af, gu⟩ n (exL L ξ) w (vS b 0 xs.length cap) (w.freeze ⟨b, cur.size, none⟩ 1) := Det.of_run fun a hF => by
      simp [execOp, hF.eval hv, convert, run_underlying' u1, run_underlying' u2, markStringish, hm]
     refine hd.mono fun v' w' ⟨e1, e2⟩ => ?_
     subst e1; subst e2
     have hfx : ∀ x, Eff.foot ⟨[], [(k, none)], [], .ls true [.int .u8] xs⟩ (lkH H) g x ↔ x ∈ g.F k := fun x => ⟨fun ⟨j, h1, q, h2, h3⟩ => by
      simp only [keys, List.map_cons, List.map_nil, List.mem_singleton] at h1
      subst h1; exact h3, fun hx => ⟨k, by simp [keys], _, hk, hx⟩⟩
     have hsub : ∀ x, x = b → Eff.foot ⟨[], [(k, none)], [], .ls true [.int .u8] xs⟩ (lkH H) g x := fun x hx => (hfx x).2 (hx ▸ hbF)
     have hch : Chp (Eff.foot ⟨[], [(k, none)], [], .ls true [.int .u8] xs⟩ (lkH H) g) w (w.freeze ⟨b, cur.size, none⟩ 1) := ⟨q2.os, q2.tape, q2.output, q2.size, fun j hj hn => q2.blk j hj fun hy => hn (hsub j hy)⟩
     let g' : G := ⟨g.N, g.F, fun x => g.X x ∧ x ∉ g.F k⟩
     have hgo : Go (Eff.foot ⟨[], [(k, none)], [], .ls true [.int .u8] xs⟩ (lkH H) g) g w g' (w.freeze ⟨b, cur.size, none⟩ 1) := ⟨hch, fun x hx => hS.own k _ hkk x ((hfx x).1 hx), fun x hx => .inl hx.1, fun x h1 h2 => ⟨h1, fun h3 => h2 ((hfx x).2 h3)⟩, fun _ _ h => h, fun _ _ _ => rfl⟩
     have hno : ∀ j u, lkH (Eff.outs ⟨[], [(k, (none : Option O))], [], .ls true [.int .u8] xs⟩) j ≠ some u := fun j u h => by
      have h := lkH_some.1 h
      simp only [Eff.outs, List.map_nil, List.append_nil, lkO] at h
      by_cases e : k = j
      ·subst e; simp at h
      ·rw [beqf e] at h; cases h
     obtain ⟨vs, rfl, h4⟩ := rows1' k5
     have hvs : vs = xs.map (Value.int .u8) := ints_of h4
     refine ⟨g', hgo, ⟨_, _, rfl, ⟨k4, by rw [flat_len k5.row, k5.len], .inr ⟨b, 0, cap, rfl, hc, hc2, fun hx => hx.2 hbF, Nat.lt_of_lt_of_le (k3.lt b (by simp [oblk])).2 q2.size, ?_⟩⟩, k5.mono (rS_mv hgo.goes _)⟩, ⟨fun x hx => Nat.lt_of_lt_of_le (hS.wf x hx.1) q2.size, fun j u h => (hno j u h).elim, fun j u h => (hno j u h).elim, fun j u _ _ h => (hno j u h).elim⟩, fun j u h => (hno j u h).elim, fun j u h => .inl h⟩
     intro j u hj
     rw [← hct, List.getElem?_take] at hj
     split at hj
     ·rw [Nat.zero_add]
      unfold World.cell?
      rw [q1]
      simpa using hj
     ·cases hj
   ·cases h
 ·cases h
theorem flatS : ∀ l : List Int, (l.map fun z => [Value.int .u8 z]).flatten = l.map (Value.int .u8)
 | [] => rfl
 | a :: l => by rw [List.map_cons, List.flatten_cons, flatS l]; rfl
theorem rowsI {X : Nat → Prop} {N : Nat → Option Value} {w : World} : ∀ l : List Int, Fa2 (rS X N w [.int .u8]) (l : List (RT [.int .u8])) (l.map fun z => [Value.int .u8 z])
 | [] => trivial
 | a :: l => ⟨⟨_, rfl, rfl⟩, rowsI l⟩
theorem exBy_ok {s t : TypeId} {x : Operand} {e : Eff} {ps : List Prop} {F : Nat → Option O} (h : exBy P L s t x = some (e, ps)) (hp : AllP ps) : EOk P n ⟨ds, .convert s t x, ty, pos, af, gu⟩ L F e := by
 intro ξ g w hS hH hn
 unfold exBy at h
 split at h
 ·rename_i b te hx hs hu
  cases h
  obtain ⟨u1, u2⟩ := u8S_of hu
  have hv := opD_v hH hx
  have hd : Det P ⟨ds, .convert s t x, ty, pos, af, gu⟩ n (exL L ξ) w (.slice (some ⟨w.heap.size, 0, none⟩) b.size (grownCap w b.size 0 te)) (Lib.bytesWorld w te b) := Det.of_run fun a hF => by
   simp [execOp, hF.eval hv, Lib.run_convert_string_bytes w s t te b hs u1 u2]
  refine hd.mono fun v' w' ⟨e1, e2⟩ => ⟨g, ?_⟩
  subst e1; subst e2
  have hch : Chp (fun _ => False) w (Lib.bytesWorld w te b) := ⟨by simp [Lib.bytesWorld, World.freeze, World.alloc, World.drew, -World.alloc_eq, -World.drew_eq], by simp [Lib.bytesWorld, World.freeze, World.alloc, World.drew, -World.alloc_eq, -World.drew_eq], by simp [Lib.bytesWorld, World.freeze, World.alloc, World.drew, -World.alloc_eq, -World.drew_eq], by rw [Lib.bytesWorld_size]; omega, fun j hj _ => Lib.bytesWorld_at_old w te b j hj⟩
  have hl : (strInts b).length = b.size := by unfold strInts; rw [List.length_map, Array.length_toList]; rfl
  have hcap := grownCap_ge w b.size 0 te
  have hp := hp.1
  have hmx : (strInts b).length ≤ maxLen := by rw [hl]; simp only [maxLen]; omega
  refine Post.quiet hS.wf hch ⟨_, (strInts b).map fun z => [Value.int .u8 z], rfl, ⟨hmx, ?_, .inr ⟨w.heap.size, 0, grownCap w b.size 0 te, congrArg (fun z => Value.slice (some ⟨w.heap.size, 0, none⟩) z (grownCap w b.size 0 te)) hl.symm, Nat.le_trans (Nat.le_of_eq hl) hcap, ?_, fun hx => ?_, by rw [Lib.bytesWorld_size]; omega, ?_⟩⟩, ?_⟩
  ·rw [flatS, List.length_map]; exact (Nat.mul_one _).symm
  ·exact grownCap_le_maxLen w b.size 0 te (by simp only [maxLen]; omega)
  ·exact Nat.lt_irrefl _ (hS.wf _ hx)
  ·intro j u hj
   rw [Nat.zero_add]
   rw [flatS] at hj
   have hjl : j < b.size := by
    have := (List.getElem?_eq_some_iff.1 hj).1
    rw [List.length_map, hl] at this
    exact this
   rw [Lib.bytesWorld_cell w te b j hjl]
   have hjd : j < b.data.toList.length := hjl
   simp only [strInts, List.map_map, List.getElem?_map, List.getElem?_eq_getElem hjd, Option.map_some, Function.comp, Option.some.injEq] at hj
   rw [← hj]
   simp [List.getD, List.getElem?_eq_getElem hjd]
  ·exact rowsI _
 ·cases h
end
end Go.Sx
namespace Go.Sx
open Go.Mi Go.RowKit
variable [Dfr]
def exTk (P : Program) (L : DL) (H : Hp) (t : TypeId) (x : Operand) (xl xh xm : Option Operand) (nb : Nat) : Option (Eff × List Prop) := match xl, xm, opD L x, bndD L xh, sInf P t with
 | none, none, some (.sk k), some (some j), some _ => (match lkH H k with
  | some (.sl te e xs) => some (⟨[], [(k, none)], [(nb, .sl te e (xs.take j.toNat))], .sk nb⟩, [0 ≤ j ∧ j ≤ (xs.length : Int)])
  | _ => none)
 | _, _, _, _, _ => none
section
variable {P : Program} {n : Nat} {L : DL} {ds : Option Nat} {ty : TypeId} {pos : String} {af : Array Edge} {gu : Option (Nat × Bool)} {g g' : G} {w w' : World} {H : Hp}
theorem take_mul {α : Type} {m : Nat} : ∀ {ls : List (List α)} (k : Nat), (∀ l ∈ ls, l.length = m) → (ls.take k).flatten = ls.flatten.take (k * m)
 | [], k, _ => by simp
 | l :: ls, 0, _ => by simp
 | l :: ls, k + 1, h => by
  have hl := h l (List.mem_cons_self ..)
  have ih := take_mul (ls := ls) k fun l hl => h l (List.mem_cons_of_mem _ hl)
  rw [List.take_succ_cons, List.flatten_cons, List.flatten_cons, ih, List.take_append, hl, Nat.succ_mul, List.take_of_length_le (l := l) (by omega), show k * m + m - m = k * m by omega]
theorem exTk_ok {t : TypeId} {x : Operand} {xl xh xm : Option Operand} {nb : Nat} {e : Eff} {ps : List Prop} (h : exTk P L H t x xl xh xm nb = some (e, ps)) (hp : AllP ps) : EOk P n ⟨ds, .slice t x xl xh xm, ty, pos, af, gu⟩ L (lkH H) e := by
 intro ξ g w hS hH hn
 unfold exTk at h
 split at h
 ·rename_i k j m hx hb hsi
  split at h
  ·rename_i te e' xs hk
   cases h
   obtain ⟨⟨p1, p2⟩, _⟩ := hp
   obtain ⟨jn, rfl⟩ := Int.eq_ofNat_of_zero_le p1
   have p2 : jn ≤ xs.length := by omega
   simp only [Int.toNat_natCast] at hn ⊢
   obtain ⟨te', u1, u2⟩ := sInf_of hsi
   obtain ⟨v, hv, v', h1, h2, _⟩ := opD_ev hH hx
   cases (List.cons.inj h2).1
   have hkk : resH ([] ++ keys [(k, (none : Option O))]) (lkH H) k = some (.sl te e' xs) := by simp [resH, keys, memN, hk]
   obtain ⟨v2, ls, k1, k2, k3, k4, k5, k6⟩ := hS.os k _ hkk
   rw [h1] at k1
   cases k1
   have hlen : ∀ l ∈ ls, l.length = e'.length := k5.row
   have hS' : HS (resH ([] ++ keys [(k, (none : Option O))]) (lkH H)) g w := hS
   have bnd := fun a hF => (⟨⟨.inl ⟨rfl, rfl⟩⟩, bndD_ev hH hb a n hF, ⟨.inl ⟨rfl, rfl⟩⟩⟩ : BndV a none none ∧ BndV a xh (some (jn : Int)) ∧ BndV a none none)
   have hne : k ≠ nb := fun e => by
    have := hn (nb, _) (List.mem_singleton.2 rfl)
    rw [← e, h1] at this
    cases this
   have fin : ∀ v', Det P ⟨ds, .slice t x none xh none, ty, pos, af, gu⟩ n (exL L ξ) w v' w → oblk v' = oblk v → Own w 0 te e'.length v' (xs.take jn).length (ls.take jn).flatten → (∃ ad a b, v' = .slice ad a b) → Ok1 P ⟨ds, .slice t x none xh none, ty, pos, af, gu⟩ n (exL L ξ) w fun v w' => ∃ g', Post (lkH H) ⟨[], [(k, none)], [(nb, .sl te e' (xs.take jn))], .sk nb⟩ g w v g' w' := by
    intro v' hd hbl hown hsl
    refine hd.mono fun z z' ⟨e1, e2⟩ => ?_
    subst e1; subst e2
    refine Post.new (u := z) (F := oblk z) hS' (hn (nb, _) (List.mem_singleton.2 rfl)) (fun p hp => by simp at hp; rw [hp]) (fun hk' => by simp only [keys, List.map_cons, List.map_nil, List.mem_singleton] at hk'; exact hne hk'.symm) (Chp.refl _ _) (fun b hb => ⟨.inl ⟨k, by simp [keys], _, hk, by rw [k2, ← hbl]; exact hb⟩, (hown.lt b hb).2⟩) fun g' hg hN hF => ⟨⟨z, ls.take jn, hN, hF, hown, by rw [List.length_take]; omega, (k5.take jn).mono (rS_mv hg.goes e'), rows_one (k5.take jn)⟩, ⟨z, hN, rfl, ?_⟩⟩
    obtain ⟨ad, a, b, rfl⟩ := hsl
    cases ad <;> rfl
   obtain ⟨o1, o2⟩ := k3
   have hl2 : (ls.take jn).flatten.length = (xs.take jn).length * e'.length := by
    rw [flat_len fun l hl => hlen l (List.mem_of_mem_take hl), List.length_take, List.length_take, k5.len]
   have lt : (xs.take jn).length = jn := by rw [List.length_take]; omega
   rcases o2 with ⟨rfl, h0⟩ | ⟨b, cap, cur, rfl, hb0, hb1, hc, hc2, hcs, hct⟩
   ·have hj : jn = 0 := by omega
    subst hj
    have hd := d_cut (P := P) (n := n) (w := w) (ds := ds) (ty := ty) (pos := pos) (af := af) (gu := gu) u1 u2 hv bnd ⟨trivial, Int.le_refl _, trivial, fun h => (by cases h), Nat.le_refl _, Nat.le_refl _, Nat.le_refl _⟩
    exact fin _ hd rfl ⟨hl2, .inl ⟨rfl, lt⟩⟩ ⟨_, _, _, rfl⟩
   ·have hd := d_cut (P := P) (n := n) (w := w) (ds := ds) (ty := ty) (pos := pos) (af := af) (gu := gu) (lo := none) (mx := none) (hi := some (jn : Int)) u1 u2 hv bnd ⟨trivial, Int.natCast_nonneg _, trivial, fun h => (by cases h), Nat.zero_le _, by simp only [bl]; omega, Nat.le_refl _⟩
    have hv' : (Value.slice (if bl none cap = bl none 0 then some ⟨b, 0, none⟩ else (some (⟨b, 0, none⟩ : Addr)).map (·.add (bl none 0 * m))) (bl (some (jn : Int)) xs.length - bl none 0) (bl none cap - bl none 0)) = .slice (some ⟨b, 0, none⟩) jn cap := by
     simp [bl, add_none]
    rw [hv'] at hd
    refine fin _ hd rfl ⟨hl2, .inr ⟨b, cap, cur, by rw [lt], hb0, hb1, by rw [lt]; omega, hc2, hcs, ?_⟩⟩ ⟨_, _, _, rfl⟩
    rw [lt, take_mul jn hlen, ← hct, List.take_take, Nat.min_eq_left (Nat.mul_le_mul_right _ p2)]
  ·cases h
 ·cases h
end
end Go.Sx
namespace Go.Sx
open Go.Mi Go.RowKit
variable [Dfr]
inductive Rx where
 | call (q : CR)
 | own
 | oi (z : Int)
 | ob (b : Bool)
 | ov (d : D)
def lkR : List (Nat × Rx) → Nat → Option Rx
 | [], _ => none
 | (s, v) :: r, t => bif Nat.beq s t then some v else lkR r t
structure Env where
 P : Program
 Z : Zt
 K : Kt
def unch : D → Option (List D)
 | .nil => some []
 | .cons d ds => bif d.one then (unch ds).map (d :: ·) else none
 | _ => none
def exFn (L : DL) (f : Operand) (xs : List Operand) : Option (FuncId × List D) := match opD L f, opsD L xs with
 | some (.v (.func (.func f) first captured)), some ays => bif first.isEmpty && captured.isEmpty then some (f, ays) else none
 | some (.fn f a b), some ays => (match unch a, unch b with
  | some a, some b => some (f, a ++ ays ++ b)
  | _, _ => none)
 | _, _ => none
def exLenK (P : Program) (L : DL) (H : Hp) (t : TypeId) (x : Operand) : Option Eff := match opD L x, P.underlying t with
 | some (.sk k), some (.slice _) => (match lkH H k with
  | some (.sl _ _ xs) => some ⟨[k], [], [], .v (.int .i64 xs.length)⟩
  | _ => none)
 | _, _ => none
def exIxK (P : Program) (L : DL) (H : Hp) (t : TypeId) (x y : Operand) : Option (Eff × List Prop) := match opD L x, opD L y, sInf P t with
 | some (.sk k), some (.v (.int _ i)), some m => (match lkH H k with
  | some (.sl _ e xs) => bif Nat.beq e.length m then some (⟨[k], [], [], .xp k m xs.length i.toNat 0⟩, [0 ≤ i ∧ i < (xs.length : Int)]) else none
  | _ => none)
 | _, _, _ => none
def pureE (r : Option (D × List Prop)) : Option (Eff × List Prop) := r.map fun p => (⟨[], [], [], p.1⟩, p.2)
def noP (e : Option Eff) : Option (Eff × List Prop) := e.map (·, [])
def exB (E : Env) (L : DL) (H : Hp) (nb : Nat) : Op → Option (Eff × List Prop)
 | .load t x => (exLd E.P L H t x).map fun p => (⟨p.1, [], [], p.2⟩, [])
 | .store t x y => (exSt E.P L H t x y).map fun p => (⟨[], [(p.1, some p.2)], [], .top⟩, [])
 | .alloc t => noP (exAlloc E.Z t nb)
 | .box t x => noP (exBox L t x nb)
 | .build t ps => pureE ((exBuild E.P E.Z L t ps.toList).map (·, []))
 | .buildSlice t len ps => (match exBs E.P E.Z E.K L t len ps.toList with
  | some B => (match sizeOfT E.P B.te with
   | some m => bif Nat.beq m B.e.length then some (exBsI B, []) else none
   | none => none)
  | none => none)
 | .makeSlice t x y => exMk E.P E.K L t x y nb
 | .slice t x a b c => (match exTk E.P L H t x a b c nb with
  | some r => some r
  | none => pureE (exCut E.P L t x a b c))
 | .index t x y => pureE (exIdx E.P L t x y)
 | .indexAddr t x y => (match exIxK E.P L H t x y with
  | some r => some r
  | none => pureE (exIx E.P t L x y))
 | .call c => (match c.callee, c.args.toList, c.argTypes.toList with
  | .builtin .append, [s, x], [t, t'] => bif Nat.beq t t' then (match exAp E.P E.K L H t s x with
   | some A => exApE E.P A nb
   | none => none) else (exAz E.P E.K L H t t' s x).map fun A => A.eff nb
  | .builtin .len, [x], [t] => (match exLenK E.P L H t x with
   | some e => some (e, [])
   | none => pureE (exLen E.P t L x))
  | .builtin .copy, [x, y], [t, _] => (exCp E.P L H t x y).map fun c => (c.eff, [])
  | .builtin .cap, [x], [t] => pureE (exCap E.P L t x)
  | _, _, _ => pureE (exP E.P L (.call c)))
 | .convert s t x => (match exMark E.P L H s t x with
  | some r => some r
  | none => (match exBy E.P L s t x with
   | some r => some r
   | none => pureE (exP E.P L (.convert s t x))))
 | op => pureE (exP E.P L op)
def exA (E : Env) (C : List (Nat × Rx)) : Ex := fun i L H nb o => match lkR C i with
 | none => exB E L H nb o.op
 | some (.call q) => (match o.op with
  | .call c => (match c.callee with
   | .value f => (match exFn L f c.args.toList with
    | some (f, ays) => bif Nat.beq f q.f && q.chk && ays.all D.one then some (q.eff, [q.need ays H]) else none
    | none => none)
   | _ => none)
  | _ => none)
 | some .own => (match o.op with
  | .buildSlice t len ps => (exBs E.P E.Z E.K L t len ps.toList).map fun B => (exBsO B nb, [])
  | _ => none)
 | some (.oi z) => (match exB E L H nb o.op with
  | some (⟨rd, [], [], .v (.int k x)⟩, ps) => some (⟨rd, [], [], .v (.int k z)⟩, (x = z) :: ps)
  | _ => none)
 | some (.ob z) => (match exB E L H nb o.op with
  | some (⟨rd, [], [], .v (.bool x)⟩, ps) => some (⟨rd, [], [], .v (.bool z)⟩, (x = z) :: ps)
  | _ => none)
 | some (.ov d) => (match exB E L H nb o.op with
  | some (⟨rd, wr, nw, r⟩, ps) => some (⟨rd, wr, nw, d⟩, (r = d) :: ps)
  | _ => none)
section
variable {n : Nat} {L : DL} {H : Hp} {ds : Option Nat} {ty : TypeId} {pos : String} {af : Array Edge} {gu : Option (Nat × Bool)}
theorem PureOk.eok {P : Program} {o : Oper} {d : D} {ps : List Prop} {H : Nat → Option O} (h : PureOk P n o L d ps) (hp : AllP ps) : EOk P n o L H ⟨[], [], [], d⟩ := EOk.rd fun ξ g w hS hH => h hp ξ g w hH hS.wf
theorem pureE_ok {P : Program} {o : Oper} {r : Option (D × List Prop)} {e : Eff} {ps : List Prop} {H : Nat → Option O} (h : pureE r = some (e, ps)) (hp : AllP ps) (hr : ∀ d ps, r = some (d, ps) → PureOk P n o L d ps) : EOk P n o L H e := by
 obtain ⟨⟨d, qs⟩, h1, h2⟩ := Option.map_eq_some_iff.1 h
 cases h2
 exact (hr d _ h1).eok hp
theorem mk_same {P : Program} {t : TypeId} {x y : Operand} {Lv : List (Nat × Value)} {w : World} {R : Value → World → Prop} {v : Value} (hx : ev Lv x = some v) (hy : ev Lv y = some v) (h : Ok1 P ⟨ds, .makeSlice t x x, ty, pos, af, gu⟩ n Lv w R) : Ok1 P ⟨ds, .makeSlice t x y, ty, pos, af, gu⟩ n Lv w R := by
 intro a K Q hF hk
 have := h a K Q hF hk
 simp only [Oper.wp, execOp, hF.eval hx, hF.eval hy] at this ⊢
 exact this
theorem exMk_ok' {P : Program} {K : Kt} {t : TypeId} {x y : Operand} {nb : Nat} {e : Eff} {ps : List Prop} {H : Nat → Option O} (h : exMk P K L t x y nb = some (e, ps)) (hp : AllP ps) : EOk P n ⟨ds, .makeSlice t x y, ty, pos, af, gu⟩ L H e := by
 have key : ∃ i, opD L x = some (.v (.int .i64 i)) ∧ opD L y = some (.v (.int .i64 i)) ∧ exMk P K L t x x nb = some (e, ps) := by
  unfold exMk at h ⊢
  split at h
  ·rename_i te i j he hx hy
   have hij : i = j := by
    split at h
    ·split at h
     ·rename_i inf a _ _ _ z _
      cases hb : Nat.beq inf.size 1 && z.oneCell' with
      | false => rw [hb] at h; cases h
      | true =>
       rw [hb] at h
       obtain ⟨q, _, h2⟩ := Option.map_eq_some_iff.1 h
       simp only [Prod.mk.injEq] at h2
       obtain ⟨_, rfl⟩ := h2
       exact hp.1
     ·cases h
    ·cases h
   subst hij
   refine ⟨i, hx, hy, ?_⟩
   rw [he, hx]
   exact h
  ·cases h
 obtain ⟨i, hx, hy, h2⟩ := key
 intro ξ g w hS hH hn
 exact mk_same (opD_v hH hx) (opD_v hH hy) (exMk_ok (y := x) h2 hp rfl ξ g w hS hH hn)
theorem exLenK_ok {P : Program} {t : TypeId} {x : Operand} {e : Eff} (h : exLenK P L H t x = some e) : EOk P n ⟨ds, .call ⟨.builtin .len, #[x], #[t]⟩, ty, pos, af, gu⟩ L (lkH H) e := by
 unfold exLenK at h
 split at h
 ·rename_i k te hx hu
  split at h
  ·rename_i te' e' xs hk
   cases h
   refine EOk.rd fun ξ g w hS hH => ⟨_, rfl, ?_⟩
   obtain ⟨v, hv, v', h1, h2, _⟩ := opD_ev hH hx
   cases (List.cons.inj h2).1
   obtain ⟨v2, ls, k1, k2, k3, _⟩ := hS.os k _ (by simp only [resH, memN_iff.2 (List.mem_singleton.2 rfl)]; exact hk)
   rw [h1] at k1
   cases k1
   rcases k3.at with ⟨rfl, h4, _⟩ | ⟨b, cap, rfl, _, _⟩
   ·rw [h4]; exact d_len_slice hu hv
   ·exact d_len_slice hu hv
  ·cases h
 ·cases h
theorem exIxK_ok {P : Program} {t : TypeId} {x y : Operand} {e : Eff} {ps : List Prop} (h : exIxK P L H t x y = some (e, ps)) (hp : AllP ps) : EOk P n ⟨ds, .indexAddr t x y, ty, pos, af, gu⟩ L (lkH H) e := by
 unfold exIxK at h
 split at h
 ·rename_i k kk i m hx hy hsi
  split at h
  ·rename_i te' e' xs hk
   cases hb : Nat.beq e'.length m with
   | false => rw [hb] at h; cases h
   | true =>
    rw [hb] at h
    have := Nat.eq_of_beq_eq_true hb
    subst this
    cases h
    obtain ⟨te, u1, u2⟩ := sInf_of hsi
    refine EOk.rd fun ξ g w hS hH => ?_
    obtain ⟨v, hv, v', h1, h2, _⟩ := opD_ev hH hx
    cases (List.cons.inj h2).1
    obtain ⟨v2, ls, k1, k2, k3, _⟩ := hS.os k _ (by simp only [resH, memN_iff.2 (List.mem_singleton.2 rfl)]; exact hk)
    rw [h1] at k1
    cases k1
    have hi : i.toNat < xs.length := by have := hp.1; omega
    rcases k3.at with ⟨rfl, h4, _⟩ | ⟨b, cap, rfl, _, _⟩
    ·omega
    ·refine ⟨_, ⟨hi, b, cap, h1, rfl⟩, ?_⟩
     have := d_ixS' (P := P) (n := n) (w := w) (ds := ds) (ty := ty) (pos := pos) (af := af) (gu := gu) u1 u2 hv (opD_v hH hy) hp.1.1 hp.1.2
     simpa using this
  ·cases h
 ·cases h
theorem exB_ok {E : Env} {nb : Nat} {op : Op} {e : Eff} {ps : List Prop} (hZ : ZOk E.P E.Z) (h : exB E L H nb op = some (e, ps)) (hp : AllP ps) : EOk E.P n ⟨ds, op, ty, pos, af, gu⟩ L (lkH H) e := by
 unfold exB at h
 split at h
 ·obtain ⟨⟨rd, d⟩, h1, h2⟩ := Option.map_eq_some_iff.1 h
  cases h2
  exact exLd_ok h1
 ·obtain ⟨⟨k, o'⟩, h1, h2⟩ := Option.map_eq_some_iff.1 h
  cases h2
  exact exSt_ok h1
 ·obtain ⟨e', h1, h2⟩ := Option.map_eq_some_iff.1 h
  cases h2
  exact exAlloc_ok hZ h1
 ·obtain ⟨e', h1, h2⟩ := Option.map_eq_some_iff.1 h
  cases h2
  exact exBox_ok h1
 ·refine pureE_ok h hp fun d qs hq => ?_
  obtain ⟨d', h1, h2⟩ := Option.map_eq_some_iff.1 hq
  cases h2
  exact exBuild_ok hZ h1
 ·split at h
  ·rename_i B hB
   split at h
   ·rename_i m hm
    cases hb : Nat.beq m B.e.length with
    | false => rw [hb] at h; cases h
    | true =>
     rw [hb] at h
     have := Nat.eq_of_beq_eq_true hb
     subst this
     cases h
     exact exBsI_ok hZ hB hm
   ·cases h
  ·cases h
 ·exact exMk_ok' h hp
 ·split at h
  ·rename_i r hr
   cases h
   exact exTk_ok hr hp
  ·exact pureE_ok h hp fun d qs hq => exCut_ok hq
 ·exact pureE_ok h hp fun d qs hq => exIdx_ok hq
 ·split at h
  ·rename_i r hr
   cases h
   exact exIxK_ok hr hp
  ·exact pureE_ok h hp fun d qs hq => exIx_ok hq
 ·rename_i c
  obtain ⟨cl, ⟨xs⟩, ⟨ts⟩⟩ := c
  simp only at h
  split at h
  ·rename_i s x t t'
   cases hb : Nat.beq t t' with
   | false =>
    rw [hb] at h
    simp only [cond_false] at h
    obtain ⟨A, hA, hE⟩ := Option.map_eq_some_iff.1 h
    have e1 : e = (A.eff nb).1 := by rw [hE]
    have e2 : ps = (A.eff nb).2 := by rw [hE]
    subst e1
    exact exAz_ok hA (e2 ▸ hp)
   | true =>
    rw [hb] at h
    have := Nat.eq_of_beq_eq_true hb
    subst this
    simp only [cond_true] at h
    split at h
    ·rename_i A hA
     exact exApE_ok hA h hp
    ·cases h
  ·split at h
   ·rename_i e' he
    cases h
    exact exLenK_ok he
   ·exact pureE_ok h hp fun d qs hq => exLen_ok hq
  ·obtain ⟨c, h1, h2⟩ := Option.map_eq_some_iff.1 h
   cases h2
   exact exCp_ok h1
  ·exact pureE_ok h hp fun d qs hq => exCap_ok hq
  ·exact pureE_ok h hp fun d qs hq => exP_ok hq
 ·split at h
  ·rename_i r hr
   cases h
   exact exMark_ok hr hp
  ·split at h
   ·rename_i r hr
    cases h
    exact exBy_ok hr hp
   ·exact pureE_ok h hp fun d qs hq => exP_ok hq
 ·exact pureE_ok h hp fun d qs hq => exP_ok hq
def CsOk (P : Program) : List (Nat × Rx) → Prop
 | [] => True
 | (_, .call q) :: r => ConOk P q.f q.c ∧ CsOk P r
 | _ :: r => CsOk P r
theorem CsOk.at {P : Program} : ∀ {C : List (Nat × Rx)} {i : Nat} {q : CR}, CsOk P C → lkR C i = some (.call q) → ConOk P q.f q.c
 | (s, x) :: r, i, q, h, hl => by
  simp only [lkR] at hl
  by_cases e : s = i
  ·subst e
   simp at hl
   subst hl
   exact h.1
  ·rw [beqf e] at hl
   cases x with
   | call q' => exact h.2.at hl
   | own => exact CsOk.at (C := r) h hl
   | oi z => exact CsOk.at (C := r) h hl
   | ob z => exact CsOk.at (C := r) h hl
   | ov z => exact CsOk.at (C := r) h hl
theorem unch_ok {g : G} {w : World} : ∀ {d : D} {ds : List D} {vs : List Value}, unch d = some ds → sem g.X g.N w d true vs → sem g.X g.N w (chain ds) true vs := by
 intro d
 induction d with
 | nil => intro ds vs h hs; cases h; exact hs
 | cons a b _ ih =>
  intro ds vs h hs
  simp only [unch] at h
  cases ho : a.one with
  | false => rw [ho] at h; cases h
  | true =>
   rw [ho] at h
   obtain ⟨q, h1, rfl⟩ := Option.map_eq_some_iff.1 h
   obtain ⟨l1, l2, rfl, h2, h3⟩ := hs
   exact ⟨l1, l2, rfl, h2, ih h1 h3⟩
 | _ => intro ds vs h; cases h
theorem chain_app {g : G} {w : World} {m : Bool} : ∀ {a b : List D} {va vb : List Value}, sem g.X g.N w (chain a) m va → sem g.X g.N w (chain b) m vb → sem g.X g.N w (chain (a ++ b)) m (va ++ vb)
 | [], b, va, vb, h, k => by have : va = [] := h; subst this; exact k
 | d :: a, b, va, vb, ⟨l1, l2, e, h1, h2⟩, k => by subst e; exact ⟨l1, l2 ++ vb, by simp, h1, chain_app h2 k⟩
theorem exA_ok {E : Env} {C : List (Nat × Rx)} (hZ : ZOk E.P E.Z) (hC : CsOk E.P C) : ExOk E.P n (exA E C) := by
 intro i L H nb o e ps h hp
 obtain ⟨ds, op, ty, pos, af, gu⟩ := o
 unfold exA at h
 split at h
 ·exact exB_ok hZ h hp
 ·rename_i q hq
  have hc := hC.at hq
  split at h
  ·rename_i c hop
   simp only at hop
   subst hop
   obtain ⟨cl, xs, ts⟩ := c
   split at h
   ·rename_i f hf
    simp only at hf
    subst hf
    split at h
    ·rename_i f' ays hfn
     cases hb : Nat.beq f' q.f && q.chk && ays.all D.one with
     | false => rw [hb] at h; cases h
     | true =>
      rw [hb] at h
      simp only [Bool.and_eq_true, List.all_eq_true] at hb
      obtain ⟨⟨b1, b2⟩, b3⟩ := hb
      have b1 := Nat.eq_of_beq_eq_true b1
      subst b1
      cases h
      have hq' := CRok.of b2
      obtain ⟨n1, n2⟩ := CR.need_of hp.1
      intro ξ g w hS hH hn
      have fin : ∀ {vs : List Value}, sem g.X g.N w (chain ays) true vs → Calls E.P q.f vs.toArray w (Ret fun v w' => ∃ g', Post (lkH H) q.eff g w v g' w') := fun hv => by
       have := weakL_ok (es := q.c.args.map (D.ren q.r)) hv b3
       rw [n1] at this
       exact call_post hq' hc n2 hS hn this
      unfold exFn at hfn
      split at hfn
      ·rename_i f0 first captured as' hx has
       cases he : first.isEmpty && captured.isEmpty with
       | false => rw [he] at hfn; cases hfn
       | true =>
        rw [he] at hfn
        simp only [cond_true, Option.some.injEq, Prod.mk.injEq] at hfn
        obtain ⟨rfl, rfl⟩ := hfn
        rw [Bool.and_eq_true, Array.isEmpty_iff, Array.isEmpty_iff] at he
        obtain ⟨rfl, rfl⟩ := he
        obtain ⟨vs, k1, k2, _⟩ := opsD_ev hH has
        refine ok_callv (first := #[]) (captured := #[]) (opD_v hH hx) hc.1 k1 ?_
        simpa using fin k2
      ·rename_i f0 a b as' hx has
       split at hfn
       ·rename_i a' b' ha hb'
        simp only [Option.some.injEq, Prod.mk.injEq] at hfn
        obtain ⟨rfl, rfl⟩ := hfn
        obtain ⟨v, hv, va, vb, h1, h2, h3⟩ := opD_ev hH hx
        cases (List.cons.inj h3).1
        obtain ⟨vs, k1, k2, _⟩ := opsD_ev hH has
        refine ok_callv hv hc.1 k1 ?_
        have := fin (chain_app (chain_app (unch_ok ha h1) k2) (unch_ok hb' h2))
        simpa using this
       ·cases hfn
      ·cases hfn
    ·cases h
   ·cases h
  ·cases h
 ·split at h
  ·rename_i t len qs hop
   simp only at hop
   subst hop
   obtain ⟨B, h1, h2⟩ := Option.map_eq_some_iff.1 h
   cases h2
   exact exBsO_ok hZ h1
  ·cases h
 ·rename_i z hz
  split at h
  ·rename_i rd k x qs hb
   cases h
   obtain ⟨rfl, hp⟩ := hp
   exact exB_ok hZ hb hp
  ·cases h
 ·rename_i z hz
  split at h
  ·rename_i rd x qs hb
   cases h
   obtain ⟨rfl, hp⟩ := hp
   exact exB_ok hZ hb hp
  ·cases h
 ·rename_i d hz
  split at h
  ·rename_i rd wr nw r qs hb
   cases h
   obtain ⟨rfl, hp⟩ := hp
   exact exB_ok hZ hb hp
  ·cases h
end
end Go.Sx
namespace Go.Sx
open Go.Mi Go.RowKit
variable [Dfr]
def exRv (P : Program) (L : DL) (H : Hp) : ResultVar → Option D
 | .tmp t => lkD L t
 | .cell x t => match lkD L x, tInf P t with
  | some (.cp k o), some (fl, m) => (match lkH H k with
   | some (.ob _ d) => (getS (segs d) o m).bind (fin1 fl)
   | _ => none)
  | _, _ => none
def exRvs (P : Program) (L : DL) (H : Hp) : List ResultVar → Option (List D)
 | [] => some []
 | r :: rs => match exRv P L H r, exRvs P L H rs with
  | some d, some ds => bif d.one then some (d :: ds) else none
  | _, _ => none
def resD : List D → D
 | [d] => d
 | ds => .tu (chain ds)
section
variable {P : Program} {n : Nat} {L : DL} {H : Hp} {S0 : Nat → Prop} {g0 g : G} {w0 w : World} {nb : Nat} {a : Act} {Q : Exit → Act → World → Prop}
theorem St.fx (h : St n S0 g0 w0 L H nb a g w) : Fr a n L g w := ⟨h.size, h.defers, h.fr⟩
theorem run_ldv {t : TypeId} {fl : Bool} {m b o : Nat} {r : List D} {d : D} {l : List Value} (ht : tInf P t = some (fl, m)) (ha : At w b o l) (hl : l.length = m) (hs : semS g.X g.N w r l) (ho : ∀ u ∈ l, u.oneCell' = true) (hf : fin1 fl r = some d) : ∃ v, Sm g w d v ∧ (loadVar t ⟨b, o, none⟩).run P w = .ok v w := by
 obtain ⟨td, h1, h2, h3⟩ := tInf_of ht
 unfold fin1 at hf
 cases fl with
 | true =>
  simp only [cond_true] at hf
  split at hf
  ·rename_i d0
   obtain ⟨v, rfl, h4⟩ := one1_ok (semS_one.1 hs) hf
   have hc : w.cell? ⟨b, o, none⟩ = some v := by simpa using ha 0 v rfl
   exact ⟨v, h4, by simp [loadVar, run_isAgg_flat h1 h2, hc]⟩
  ·cases hf
 | false =>
  simp only [cond_false, Option.some.injEq] at hf
  subst hf
  refine ⟨_, mk1_ok hs ho, ?_⟩
  obtain ⟨inf, hi, hz⟩ := Option.map_eq_some_iff.1 h3
  have hag : (isAgg t).run P w = .ok true w := by
   simp only [isAgg, Sem.run_bind, run_underlying' h1, Result.andThen_ok]
   cases td <;> simp_all [TypeDesc.flat]
  have hld := run_loadCells_list (P := P) w ⟨b, o, none⟩ l (fun j v hj => by rw [add_none]; exact ha j v hj)
  subst hl
  simp [loadVar, hag, sizeOf, typeInfo, hi, hz, hld]
theorem exRv_ok (hS : St n S0 g0 w0 L H nb a g w) {r : ResultVar} {d : D} (h : exRv P L H r = some d) : ∃ v, RV P a w r v ∧ Sm g w d v := by
 cases r with
 | tmp t => exact ⟨_, RV.tmp hS.fx.frm (hS.fx.get.lk h), hS.fx.get t d h⟩
 | cell x t =>
  simp only [exRv] at h
  split at h
  ·rename_i k o fl m hx ht
   split at h
   ·rename_i ty d0 hk
    obtain ⟨r, h1, h2⟩ := Option.bind_eq_some_iff.1 h
    obtain ⟨b, c, k1, k2, k3, k4, k5⟩ := hS.hs.os k _ hk
    obtain ⟨b', e1, e2⟩ := hS.fx.get x _ hx
    rw [k1] at e1
    cases e1
    have hxv : a.tmps.getD x undef = vP b o := (List.cons.inj e2).1
    obtain ⟨q1, q2⟩ := getS_ok (sem_segs k4) h1
    have ha : At w b 0 c.toList := At.of_blk k3
    have key : ∃ v, Sm g w d v ∧ (loadVar t ⟨b, o, none⟩).run P w = .ok v w := by
     cases hm : m with
     | zero =>
      subst hm
      exact run_ldv ht (l := []) (fun i u hu => by simp at hu) rfl (by simpa using q1) (by simp) h2
     | succ m' =>
      have q2' : o + m ≤ c.toList.length := by rw [if_neg (by omega)] at q2; simpa using q2
      refine run_ldv ht (l := (c.toList.drop o).take m) ?_ (by simp at q2' ⊢; omega) q1 (fun u hu => k5 u (List.mem_of_mem_drop (List.mem_of_mem_take hu))) h2
      have h3 : c.toList = c.toList.take o ++ (c.toList.drop o).take m ++ (c.toList.drop o).drop m := by rw [List.append_assoc, List.take_append_drop, List.take_append_drop]
      have := At.sub ha h3
      rw [List.length_take, Nat.min_eq_left (by omega), Nat.zero_add] at this
      exact this
    obtain ⟨v, h3, h4⟩ := key
    exact ⟨v, by simp only [RV, rv, hxv, asAddr, Sem.run_bind, Sem.run_pure, Result.andThen_ok, h4], h3⟩
   ·cases h
  ·cases h
theorem exRvs_ok (hS : St n S0 g0 w0 L H nb a g w) : ∀ {rs : List ResultVar} {ds : List D}, exRvs P L H rs = some ds → ∃ vs, (rs.mapM (rv a.tmps)).run P w = .ok vs w ∧ sem g.X g.N w (chain ds) true vs ∧ vs.length = ds.length ∧ ∀ d ∈ ds, d.one = true
 | [], ds, h => by simp only [exRvs, Option.some.injEq] at h; subst h; exact ⟨[], by simp, rfl, rfl, by simp⟩
 | r :: rs, ds, h => by
  simp only [exRvs] at h
  split at h
  ·rename_i d ds' h1 h2
   cases ho : d.one with
   | false => rw [ho] at h; cases h
   | true =>
    rw [ho] at h
    cases h
    obtain ⟨v, k1, k2⟩ := exRv_ok hS h1
    obtain ⟨vs, k3, k4, k5, k6⟩ := exRvs_ok hS h2
    unfold RV at k1
    refine ⟨v :: vs, by simp [List.mapM_cons, k1, k3], ⟨[v], vs, rfl, k2, k4⟩, by simp [k5], fun e he => ?_⟩
    rcases List.mem_cons.1 he with rfl | he
    ·exact ho
    ·exact k6 e he
  ·cases h
theorem res_ok (hS : St n S0 g0 w0 L H nb a g w) {fn : Func} {ds : List D} (h : exRvs P L H fn.results.toList = some ds) : ∃ v, (results fn a.tmps).run P w = .ok v w ∧ Sm g w (resD ds) v := by
 obtain ⟨vs, h1, h2, h3, h4⟩ := exRvs_ok hS h
 have hr : (results fn a.tmps).run P w = .ok (if h : vs.toArray.size = 1 then vs.toArray[0] else .tuple vs.toArray) w := by
  rw [results_eq, Array.mapM_eq_mapM_toList]
  simp [h1]
 refine ⟨_, hr, ?_⟩
 match ds, vs, h2, h3 with
 | [], [], h2, _ => exact ⟨[], rfl, rfl⟩
 | [d], [v], h2, _ =>
  obtain ⟨l1, l2, e, k1, k2⟩ := h2
  have : l2 = [] := k2
  subst this
  rw [List.append_nil] at e
  subst e
  exact k1
 | d :: e :: ds, u :: v :: vs, h2, _ => exact ⟨_, h2, rfl⟩
def argL : List D → Nat → DL
 | [], _ => []
 | d :: ds, i => (i, d) :: argL ds (i + 1)
def H1Ok (H : Hp) : Hc → Bool → Prop
 | [], _ => True
 | (k, o) :: r, b => lkH H k = some o ∧ H1Ok H r b
def hpC (c : Hc) : Hp := c.map fun p => (p.1, some p.2)
theorem lkH_hpC {c : Hc} {k : Nat} : lkH (hpC c) k = lkC c k := by
 induction c with
 | nil => rfl
 | cons p c ih =>
  obtain ⟨s, o⟩ := p
  simp only [hpC, List.map_cons, lkH, lkO, lkC] at ih ⊢
  by_cases e : s = k
  ·subst e; simp
  ·rw [beqf e]; exact ih
theorem conOk_ofE {E : Value → Ending} (hD : Dfr.ds = ([] : List Deferred)) {f : FuncId} {fn : Func} {code : Code} {c : Con} {nb : Nat} (hf : P.funcs[f]? = some fn) (hname : (fn.name == "runtime.NumGoroutine") = false) (hb : fn.body = some code) (hn : fn.ntmps = n) (hl : Nat.ble c.args.length n = true) (hone : c.args.all D.one = true) (hk : (keys c.H0).all (Nat.blt · nb) = true)
  (h : ∀ (g0 : G) (w0 : World) (a : Act) (g : G) (w : World), (∀ k v, g0.N k = some v → k ∈ keys c.H0) → St n (c.foot g0) g0 w0 (argL c.args 0) (hpC c.H0) nb a g w → code.wp P (bodyPost P fn (fun e w' => ∃ v, e = E v ∧ ∃ g', CPost c g0 w0 v g' w')) a w) : ConOkE E P f c := by
 refine ⟨⟨fn, hf, hname, by rw [hb]; rfl⟩, fun vs g w hS hN hv => ?_⟩
 have hlen : ∀ {ds : List D} {vs : List Value}, (∀ d ∈ ds, d.one = true) → sem g.X g.N w (chain ds) true vs → vs.length = ds.length := by
  intro ds
  induction ds with
  | nil => intro vs _ h; have : vs = [] := h; subst this; rfl
  | cons d ds ih =>
   rintro vs ho ⟨l1, l2, rfl, h1, h2⟩
   obtain ⟨v, rfl⟩ := sem_one h1 (ho d (List.mem_cons_self ..))
   simp [ih (fun e he => ho e (List.mem_cons_of_mem _ he)) h2]
 have ho := List.all_eq_true.1 hone
 have hvl := hlen ho hv
 refine calls_of hf hb hn (by rw [hvl]; exact hl) hD fun a hF => ?_
 refine h g w a g w hN ⟨hF.size, hF.defers, fun t d ht => ?_, ?_, Go.refl _ _ _ fun x ⟨k, o, h1, h2⟩ => hS.own k o h1 x h2, hS.wf, fun k o hk b hb => .inl ⟨k, o, by rw [← lkH_hpC]; exact hk, hb⟩, fun k v hkv => ?_⟩
 ·have key : ∀ (ds : List D) (us : List Value) (i : Nat), (∀ d ∈ ds, d.one = true) → sem g.X g.N w (chain ds) true us → (∀ s v, lk ((us.zipIdx i).map fun p => (p.2, p.1)) s = some v → a.tmps.getD s undef = v) → lkD (argL ds i) t = some d → Sm g w d (a.tmps.getD t undef) := by
   intro ds
   induction ds with
   | nil => intro us i _ _ _ ht; cases ht
   | cons e ds ih =>
    rintro us i ho ⟨l1, l2, rfl, h1, h2⟩ hg ht
    obtain ⟨v, rfl⟩ := sem_one h1 (ho e (List.mem_cons_self ..))
    simp only [argL, lkD] at ht
    by_cases e' : i = t
    ·subst e'
     simp at ht
     subst ht
     have := hg i v (by simp [lk])
     rw [this]
     exact h1
    ·rw [beqf e'] at ht
     refine ih l2 (i + 1) (fun q hq => ho q (List.mem_cons_of_mem _ hq)) h2 (fun s v hs => hg s v ?_) ht
     simp only [List.singleton_append, List.zipIdx_cons, List.map_cons, lk]
     have hne : ¬ i = s := fun es => by
      subst es
      have : ∀ (us : List Value) (j : Nat), i < j → lk ((us.zipIdx j).map fun p => (p.2, p.1)) i = none := by
       intro us
       induction us with
       | nil => intro j _; rfl
       | cons u us ih2 =>
        intro j hj
        simp only [List.zipIdx_cons, List.map_cons, lk]
        rw [beqf (show ¬ j = i by omega)]
        exact ih2 (j + 1) (by omega)
      rw [this l2 (i + 1) (by omega)] at hs
      cases hs
     rw [beqf hne]
     exact hs
  exact key c.args vs 0 ho hv hF.get ht
 ·exact hS.sub fun k o hk => by rw [← lkH_hpC]; exact hk
 ·have := List.all_eq_true.1 hk k (hN k v hkv)
  simpa [Nat.blt_eq] using this
theorem conOk_of (hD : Dfr.ds = ([] : List Deferred)) {f : FuncId} {fn : Func} {code : Code} {c : Con} {nb : Nat} (hf : P.funcs[f]? = some fn) (hname : (fn.name == "runtime.NumGoroutine") = false) (hb : fn.body = some code) (hn : fn.ntmps = n) (hl : Nat.ble c.args.length n = true) (hone : c.args.all D.one = true) (hk : (keys c.H0).all (Nat.blt · nb) = true)
  (h : ∀ (g0 : G) (w0 : World) (a : Act) (g : G) (w : World), (∀ k v, g0.N k = some v → k ∈ keys c.H0) → St n (c.foot g0) g0 w0 (argL c.args 0) (hpC c.H0) nb a g w → code.wp P (bodyPost P fn (Ret fun v w' => ∃ g', CPost c g0 w0 v g' w')) a w) : ConOk P f c :=
 conOk_ofE (E := .returned) hD hf hname hb hn hl hone hk h
theorem fin_x (hD : Dfr.ds = ([] : List Deferred)) {fn : Func} {c : Con} {ds : List D} {e : Exit} (he : e = .normal ∨ e = .ret) (hS : St n (c.foot g0) g0 w0 L H nb a g w) (h : exRvs P L H fn.results.toList = some ds) (hr : weak (resD ds) c.res = c.res) (h1 : H1Ok H c.H1 true) : bodyPost P fn (Ret fun v w' => ∃ g', CPost c g0 w0 v g' w') e a w := by
 obtain ⟨v, h2, h3⟩ := res_ok hS h
 have h4 : Sm g w c.res v := hr ▸ weak_ok h3
 have key : ∀ k o, lkC c.H1 k = some o → lkH H k = some o := by
  have : ∀ (r : Hc), H1Ok H r true → ∀ k o, lkC r k = some o → lkH H k = some o := by
   intro r
   induction r with
   | nil => intro _ k o h; cases h
   | cons p r ih =>
    obtain ⟨s, u⟩ := p
    intro hh k o h
    simp only [lkC] at h
    by_cases e : s = k
    ·subst e; simp at h; subst h; exact hh.1
    ·rw [beqf e] at h; exact ih hh.2 k o h
  exact this c.H1 h1
 have post : ∃ g', CPost c g0 w0 v g' w := ⟨g, hS.go, h4, hS.hs.sub key, fun k o hk b hb => hS.fp k o (key k o hk) b hb⟩
 rcases he with rfl | rfl
 ·exact body_end hD hS.fx.frm h2 post
 ·exact body_ret hD hS.fx.frm h2 post
theorem if_x {x y : Code} {c : Operand} {t : Bool} (hS : St n S0 g0 w0 L H nb a g w) (hc : opD L c = some (.v (.bool t))) (ht : t = true → x.wp P Q a w) (hf : t = false → y.wp P Q a w) : (Code.cond c x y).wp P Q a w :=
 wp_if hS.fx.frm (opD_v hS.fx.get hc) ht hf
theorem loop_x {σ : Type} {code : Code} (m : σ → Nat) (Li : σ → DL) (Hi : σ → Hp) (Pi : σ → Prop) {nb' : Nat} (s0 : σ) (hP : Pi s0) (hS : St n S0 g0 w0 (Li s0) (Hi s0) nb' a g w)
  (step : ∀ s a g w, Pi s → St n S0 g0 w0 (Li s) (Hi s) nb' a g w → code.wp P (Exit.then (fun a' w' => ∃ s', m s' < m s ∧ Pi s' ∧ ∃ g', St n S0 g0 w0 (Li s') (Hi s') nb' a' g' w') Q) a w) : (Code.loop code).wp P Q a w := by
 refine wp_loop_k (fun k a w => ∃ s, m s = k ∧ Pi s ∧ ∃ g, St n S0 g0 w0 (Li s) (Hi s) nb' a g w) (m s0) ⟨s0, rfl, hP, g, hS⟩ ?_
 rintro k a w ⟨s, rfl, hp, g, hS⟩
 refine wp_mono (step s a g w hp hS) fun e a w h => ?_
 cases e <;> first | exact h | skip
 obtain ⟨s', h1, h2, g', h3⟩ := h
 exact ⟨m s', h1, s', rfl, h2, g', h3⟩
end
end Go.Sx
namespace Go.Sx
open Go.Mi Go.RowKit
variable [Dfr]
def chkRen (ρ : Ren) (ks0 : List Nat) (L' : DL) (H' : Hc) (nb' : Nat) : Bool :=
 let a := keys ρ
 nodupB a && nodupB (ρ.map (·.2)) && (ks0.all fun k => memN k a && Nat.beq (rn ρ k) k) && (L'.all fun p => allNm a p.2) && (H'.all fun p => memN p.1 a && allNmO a p.2) && (a.all (Nat.blt · nb'))
section
variable {P : Program} {n : Nat} {L : DL} {H : Hp} {S0 : Nat → Prop} {g0 g : G} {w0 w : World} {nb : Nat} {a : Act}
theorem lkD_mem : ∀ {L : DL} {t : Nat} {d : D}, lkD L t = some d → (t, d) ∈ L
 | (s, u) :: r, t, d, h => by
  simp only [lkD] at h
  by_cases e : s = t
  ·subst e; simp at h; subst h; simp
  ·rw [beqf e] at h; exact List.mem_cons_of_mem _ (lkD_mem h)
theorem lkD_map {r : D → D} {L : DL} {t : Nat} : lkD (L.map fun p => (p.1, r p.2)) t = (lkD L t).map r := by
 induction L with
 | nil => rfl
 | cons p L ih =>
  obtain ⟨s, u⟩ := p
  simp only [List.map_cons, lkD]
  by_cases e : s = t
  ·subst e; simp
  ·rw [beqf e]; simpa using ih
theorem St.ren {ks0 : List Nat} (hg0 : ∀ k v, g0.N k = some v → k ∈ ks0) (hS : St n S0 g0 w0 L H nb a g w) (ρ : Ren) (L' : DL) (H' : Hc) (nb' : Nat) (hc : chkRen ρ ks0 L' H' nb' = true) (hL : pickD L (keys L') = L'.map fun p => (p.1, p.2.ren (rn ρ))) (hH : H0Ok H (rn ρ) H') : ∃ g', St n S0 g0 w0 L' (hpC H') nb' a g' w := by
 simp only [chkRen, Bool.and_eq_true, List.all_eq_true] at hc
 obtain ⟨⟨⟨⟨⟨c1, c2⟩, c3⟩, c4⟩, c5⟩, c6⟩ := hc
 have c1 := nodupB_of c1
 have c2 := nodupB_of c2
 have nm : ∀ {ks : List Nat} {d : D}, allNm ks d = true → d.plain = true ∧ ∀ k ∈ d.nm, k ∈ ks := fun {ks d} h => by
  simp only [allNm, Bool.and_eq_true, List.all_eq_true] at h
  exact ⟨h.1, fun k hk => memN_iff.1 (h.2 k hk)⟩
 have nmO : ∀ {ks : List Nat} {d : O}, allNmO ks d = true → d.plain = true ∧ ∀ k ∈ d.nm, k ∈ ks := fun {ks d} h => by
  simp only [allNmO, Bool.and_eq_true, List.all_eq_true] at h
  exact ⟨h.1, fun k hk => memN_iff.1 (h.2 k hk)⟩
 let g' : G := ⟨fun k => if k ∈ keys ρ then g.N (rn ρ k) else none, fun k => g.F (rn ρ k), g.X⟩
 have gN : ∀ k ∈ keys ρ, g'.N k = g.N (rn ρ k) := fun k hk => if_pos hk
 have hk0 : ∀ k ∈ ks0, k ∈ keys ρ ∧ rn ρ k = k := fun k hk => by
  have := c3 k hk
  exact ⟨memN_iff.1 this.1, Nat.eq_of_beq_eq_true this.2⟩
 have hob : ∀ k o, lkH (hpC H') k = some o → k ∈ keys ρ ∧ o.plain = true ∧ (∀ j ∈ o.nm, j ∈ keys ρ) ∧ lkH H (rn ρ k) = some (o.ren (rn ρ)) := fun k o ho => by
  rw [lkH_hpC] at ho
  have := c5 _ (lkC_mem ho)
  simp only at this
  exact ⟨memN_iff.1 this.1, (nmO this.2).1, (nmO this.2).2, H0Ok_at hH ho⟩
 have hinj : ∀ i ∈ keys ρ, ∀ j ∈ keys ρ, rn ρ i = rn ρ j → i = j := fun i hi j hj e => by
  have h1 := inv_of c2 (rn_mem c1 hi)
  have h2 := inv_of c2 (rn_mem c1 hj)
  rw [e, h2] at h1
  exact (Option.some.inj h1).symm
 refine ⟨g', hS.size, hS.defers, fun t d ht => ?_, ⟨hS.hs.wf, fun k o ho => ?_, fun k o ho b hb => ?_, fun k o k' o' ho ho' hne b hb hb' => ?_⟩, ⟨hS.go.ch, hS.go.s, hS.go.x, hS.go.k, fun k v hk => ?_, fun k v hk => ?_⟩, hS.wf0, fun k o ho b hb => ?_, fun k v hk => ?_⟩
 ·have h1 : lkD (pickD L (keys L')) t = some (d.ren (rn ρ)) := by rw [hL, lkD_map, ht]; rfl
  have h2 := hS.fr t _ (lk_pickD h1).2
  obtain ⟨p1, p2⟩ := nm (c4 _ (lkD_mem ht))
  exact (sem_ren d _ _ p1 fun k hk => gN k (p2 k hk)).1 h2
 ·obtain ⟨h1, h2, h3, h4⟩ := hob k o ho
  exact (OS_ren h2 (fun j hj => gN j (h3 j hj)) (gN k h1) rfl rfl).1 (hS.hs.os _ _ h4)
 ·exact hS.hs.own _ _ (hob k o ho).2.2.2 b hb
 ·exact hS.hs.dis _ _ _ _ (hob k o ho).2.2.2 (hob k' o' ho').2.2.2 (fun e => hne (hinj k (hob k o ho).1 k' (hob k' o' ho').1 e)) b hb hb'
 ·obtain ⟨h1, h2⟩ := hk0 k (hg0 k v hk)
  rw [gN k h1, h2]
  exact hS.go.n k v hk
 ·obtain ⟨h1, h2⟩ := hk0 k (hg0 k v hk)
  show g.F (rn ρ k) = _
  rw [h2]
  exact hS.go.f k v hk
 ·exact hS.fp _ _ (hob k o ho).2.2.2 b hb
 ·by_cases h : k ∈ keys ρ
  ·have := c6 k h
   rw [Nat.blt_eq] at this
   exact this
  ·rw [show g'.N k = none from if_neg h] at hk; cases hk
def D.sb (d : D) (k : Nat) (q : Nat → D) (s : D) : D := match d with
 | .cons d ds => .cons (d.sb k q s) (ds.sb k q s)
 | .ag d => .ag (d.sb k q s)
 | .tu d => .tu (d.sb k q s)
 | .fn f a b => .fn f (a.sb k q s) (b.sb k q s)
 | .ifc t d => .ifc t (d.sb k q s)
 | .im d o => .im (d.sb k q s) o
 | .cp j o => bif Nat.beq j k then q o else .cp j o
 | .sk j => bif Nat.beq j k then s else .sk j
 | d => d
theorem sem_sb {X X' : Nat → Prop} {N : Nat → Option Value} {k : Nat} {q : Nat → D} {s : D} (hx : ∀ x, X' x → X x) (hq : ∀ b o m, N k = some (vp b) → sem X' N w (q o) m [vP b o]) (hs : ∀ v m, N k = some v → v.oneCell' = true → sem X' N w s m [v]) :
  ∀ {d : D} {m : Bool} {l : List Value}, sem X N w d m l → sem X' N w (d.sb k q s) m l := by
 intro d
 induction d with
 | cons a b iha ihb => rintro m l ⟨l1, l2, rfl, h1, h2⟩; exact ⟨l1, l2, rfl, iha h1, ihb h2⟩
 | ag d ih => rintro m l ⟨l', h1, h2, h3⟩; exact ⟨l', ih h1, h2, h3⟩
 | tu d ih => rintro m l ⟨l', h1, h2⟩; exact ⟨l', ih h1, h2⟩
 | fn f a b iha ihb => rintro m l ⟨va, vb, h1, h2, h3⟩; exact ⟨va, vb, iha h1, ihb h2, h3⟩
 | ifc t d ih => rintro m l ⟨v, h1, h2⟩; exact ⟨v, ih h1, h2⟩
 | im d o ih => rintro m l ⟨b, l', h1, h2, h3, h4, h5, h6⟩; exact ⟨b, l', fun h => h1 (hx b h), h2, h3, h4, h5, ih h6⟩
 | cp j o =>
  intro m l h
  simp only [D.sb]
  by_cases e : j = k
  ·subst e
   simp only [Nat.beq_refl, cond_true]
   obtain ⟨b, h1, rfl⟩ := h
   exact hq b o m h1
  ·rw [beqf e]; exact h
 | sk j =>
  intro m l h
  simp only [D.sb]
  by_cases e : j = k
  ·subst e
   simp only [Nat.beq_refl, cond_true]
   obtain ⟨v, h1, rfl, h2⟩ := h
   exact hs v m h1 h2
  ·rw [beqf e]; exact h
 | _ => intro m l h; exact sem_X h hx
def O.sb (o : O) (k : Nat) (q : Nat → D) (s : D) : O := match o with
 | .ob ty d => .ob ty (d.sb k q s)
 | .sl ty e xs => .sl ty e xs
theorem St.drop (hS : St n S0 g0 w0 L H nb a g w) (k : Nat) {o : O} (hk : lkH H k = some o) (q : Nat → D) (s : D) {L' : DL} {H' : Hp} (hL : L' = L.map fun p => (p.1, p.2.sb k q s)) (hH : H' = (k, none) :: H.map fun p => (p.1, p.2.map (O.sb · k q s)))
  (hq : ∀ X', (∀ x, X' x → g.X x ∧ x ∉ g.F k) → ∀ b o m, g.N k = some (vp b) → sem X' g.N w (q o) m [vP b o]) (hs : ∀ X', (∀ x, X' x → g.X x ∧ x ∉ g.F k) → ∀ v m, g.N k = some v → v.oneCell' = true → sem X' g.N w s m [v]) : ∃ g', St n S0 g0 w0 L' H' nb a g' w := by
 subst hL; subst hH
 have hx : ∀ x, (g.X x ∧ x ∉ g.F k) → g.X x := fun x h => h.1
 have hsem := fun {d : D} {m : Bool} {l : List Value} (h : sem g.X g.N w d m l) => sem_sb hx (hq (fun x => g.X x ∧ x ∉ g.F k) fun _ h => h) (hs (fun x => g.X x ∧ x ∉ g.F k) fun _ h => h) h
 have hob : ∀ j u, lkH ((k, none) :: H.map fun p => (p.1, p.2.map (O.sb · k q s))) j = some u → j ≠ k ∧ ∃ u', lkH H j = some u' ∧ u = u'.sb k q s := by
  intro j u h
  have h := lkH_some.1 h
  simp only [lkO] at h
  by_cases e : k = j
  ·subst e; simp at h
  ·rw [beqf e] at h
   refine ⟨fun h => e h.symm, ?_⟩
   have : ∀ (H : Hp), lkO (H.map fun p => (p.1, p.2.map (O.sb · k q s))) j = some (some u) → ∃ u', lkO H j = some (some u') ∧ u = u'.sb k q s := by
    intro H
    induction H with
    | nil => intro h; cases h
    | cons p H ih =>
     obtain ⟨s', p2⟩ := p
     intro h
     simp only [List.map_cons, lkO] at h ⊢
     by_cases e : s' = j
     ·subst e
      simp only [Nat.beq_refl, cond_true, Option.some.injEq] at h ⊢
      obtain ⟨u', h1, h2⟩ := Option.map_eq_some_iff.1 h
      exact ⟨u', h1, h2.symm⟩
     ·rw [beqf e] at h ⊢; exact ih h
   obtain ⟨u', h1, h2⟩ := this H h
   exact ⟨u', lkH_some.2 h1, h2⟩
 refine ⟨⟨g.N, g.F, fun x => g.X x ∧ x ∉ g.F k⟩, hS.size, hS.defers, fun t d ht => ?_, ⟨fun x h => hS.hs.wf x h.1, fun j u h => ?_, fun j u h b hb => ?_, fun j u j' u' h h' hne => ?_⟩, ⟨hS.go.ch, hS.go.s, fun x h => hS.go.x x h.1, fun x h1 h2 => ⟨hS.go.k x h1 h2, fun h3 => ?_⟩, hS.go.n, hS.go.f⟩, hS.wf0, fun j u h b hb => ?_, hS.nm⟩
 ·rw [lkD_map (r := fun d => d.sb k q s)] at ht
  obtain ⟨d', h1, rfl⟩ := Option.map_eq_some_iff.1 ht
  exact hsem (hS.fr t d' h1)
 ·obtain ⟨hne, u', h1, rfl⟩ := hob j u h
  have := hS.hs.os j u' h1
  cases u' with
  | ob ty ds => obtain ⟨b, c, k1, k2, k3, k4, k5⟩ := this; exact ⟨b, c, k1, k2, k3, hsem k4, k5⟩
  | sl ty e xs =>
   obtain ⟨v, ls, k1, k2, k3, k4, k5, k6⟩ := this
   exact ⟨v, ls, k1, k2, k3, k4, k5.mono (rS_mv (S := fun _ => False) ⟨Chp.refl _ _, fun _ h => h.elim, fun x h => .inl (hx x h), fun _ _ h => h⟩ e), k6⟩
 ·obtain ⟨hne, u', h1, rfl⟩ := hob j u h
  exact ⟨hS.hs.own j u' h1 b hb, hS.hs.dis j u' k o h1 hk hne b hb⟩
 ·obtain ⟨_, v, h1, rfl⟩ := hob j u h
  obtain ⟨_, v', h1', rfl⟩ := hob j' u' h'
  exact hS.hs.dis j v j' v' h1 h1' hne
 ·rcases hS.fp k o hk x h3 with h4 | h4
  ·exact h2 h4
  ·have := hS.wf0 x h1; omega
 ·obtain ⟨_, u', h1, rfl⟩ := hob j u h
  exact hS.fp j u' h1 b hb
theorem St.frz (hS : St n S0 g0 w0 L H nb a g w) (k : Nat) {te : TypeId} {e : List Fk} {xs : List (RT e)} (nn : Bool) (hnn : nn = true → xs ≠ []) (hk : lkH H k = some (.sl te e xs)) {L' : DL} {H' : Hp} (hL : L' = L.map fun p => (p.1, p.2.sb k (fun o => .cp k o) (.ls nn e xs))) (hH : H' = (k, none) :: H.map fun p => (p.1, p.2.map (O.sb · k (fun o => .cp k o) (.ls nn e xs)))) : ∃ g', St n S0 g0 w0 L' H' nb a g' w := by
 refine hS.drop k hk _ _ hL hH (fun X' hX b o m h => ⟨b, h, rfl⟩) fun X' hX v m h ho => ?_
 obtain ⟨v', ls, k1, k2, k3, k4, k5, k6⟩ := hS.hs.os k _ hk
 rw [h] at k1
 cases k1
 refine ⟨v, ls, rfl, ⟨k4, by rw [flat_len k5.row, k5.len], ?_⟩, k5.mono (rS_mv (S := fun _ => False) ⟨Chp.refl _ _, fun _ h => h.elim, fun x h => .inl (hX x h).1, fun _ _ h => h⟩ e)⟩
 rcases k3.2 with ⟨rfl, h0⟩ | ⟨b, cap, cur, rfl, _, hb, hc, hc2, _, _⟩
 ·refine .inl ⟨?_, h0, rfl⟩
  cases nn with
  | false => rfl
  | true => exact absurd (List.eq_nil_of_length_eq_zero h0) (hnn rfl)
 ·have hbF : b ∈ g.F k := by rw [k2]; simp [oblk]
  refine .inr ⟨b, 0, cap, rfl, hc, hc2, fun hx => (hX b hx).2 hbF, (k3.lt b (by simp [oblk])).2, ?_⟩
  rcases k3.at with ⟨h1, _⟩ | ⟨b', cap', h1, _, h2⟩
  ·cases h1
  ·cases h1; exact h2
end
end Go.Sx
namespace Go.Sx
open Go.Mi Go.RowKit
variable [Dfr]
def upL (t : Nat) (s : D) (L : DL) : DL := L.map fun p => (p.1, bif Nat.beq p.1 t then s else p.2)
theorem lkD_upL {t : Nat} {s : D} : ∀ {L : DL} {u : Nat} {d : D}, lkD (upL t s L) u = some d → (u = t ∧ d = s) ∨ lkD L u = some d
 | [], _, _, h => by cases h
 | (v, x) :: L, u, d, h => by
  simp only [upL, List.map_cons, lkD] at h ⊢
  by_cases e : v = u
  ·subst e
   simp only [Nat.beq_refl, cond_true, Option.some.injEq] at h ⊢
   by_cases e : v = t
   ·subst e; simp at h; exact .inl ⟨rfl, h.symm⟩
   ·rw [beqf e] at h; exact .inr h
  ·rw [beqf e] at h ⊢
   exact lkD_upL (L := L) h
section
variable {P : Program} {n : Nat} {L : DL} {H : Hp} {S0 : Nat → Prop} {g0 g : G} {w0 w : World} {nb : Nat} {a : Act}
theorem St.nilk (hS : St n S0 g0 w0 L H nb a g w) (t : Nat) (te : TypeId) (e : List Fk) (ht : lkD L t = some (.v (.slice none 0 0))) {L' : DL} {H' : Hp} (hL : L' = upL t (.sk nb) L) (hH : H' = (nb, some (.sl te e [])) :: H) : ∃ g', St n S0 g0 w0 L' H' (nb + 1) a g' w := by
 subst hL; subst hH
 let g' : G := ⟨fun k => if k = nb then some (.slice none 0 0) else g.N k, fun k => if k = nb then [] else g.F k, g.X⟩
 have hne : ∀ k v, g.N k = some v → k ≠ nb := fun k v h e => by have : k < nb := hS.nm k v h; omega
 have gn : ∀ k, k ≠ nb → g'.N k = g.N k := fun k h => if_neg h
 have gf : ∀ k, k ≠ nb → g'.F k = g.F k := fun k h => if_neg h
 have gF : g'.F nb = [] := if_pos rfl
 have gN : g'.N nb = some (.slice none 0 0) := if_pos rfl
 have hgo : Go (fun _ => False) g w g' w := ⟨Chp.refl _ _, fun _ h => h.elim, fun _ h => .inl h, fun _ h _ => h, fun k v h => (gn k (hne k v h)).trans h, fun k v h => gf k (hne k v h)⟩
 have hl : ∀ k o, lkH ((nb, some (O.sl te e [])) :: H) k = some o → (k = nb ∧ o = .sl te e []) ∨ (k ≠ nb ∧ lkH H k = some o) := fun k o h => by
  have h := lkH_some.1 h
  simp only [lkO] at h
  by_cases e : nb = k
  ·subst e; simp at h; exact .inl ⟨rfl, h.symm⟩
  ·rw [beqf e] at h; exact .inr ⟨fun x => e x.symm, lkH_some.2 h⟩
 refine ⟨g', hS.size, hS.defers, fun u d hu => ?_, ⟨hS.hs.wf, fun k o h => ?_, fun k o h b hb => ?_, fun k o k' o' h h' hk b hb hb' => ?_⟩, ⟨hS.go.ch, hS.go.s, hS.go.x, hS.go.k, fun k v hk => ?_, fun k v hk => ?_⟩, hS.wf0, fun k o h b hb => ?_, fun k v h => ?_⟩
 ·rcases lkD_upL hu with ⟨rfl, rfl⟩ | h
  ·have h1 : [a.tmps.getD u undef] = [Value.slice none 0 0] := hS.fr u _ ht
   exact ⟨_, gN, h1, rfl⟩
  ·exact (hS.fr u d h).mv hgo
 ·rcases hl k o h with ⟨rfl, rfl⟩ | ⟨h1, h2⟩
  ·exact ⟨_, [], gN, gF, ⟨by simp, .inl ⟨rfl, rfl⟩⟩, by simp [maxLen], trivial, by simp⟩
  ·exact (hS.hs.os k o h2).mv hgo fun _ _ h => h
 ·rcases hl k o h with ⟨rfl, rfl⟩ | ⟨h1, h2⟩
  ·rw [gF] at hb; cases hb
  ·rw [gf k h1] at hb; exact hS.hs.own k o h2 b hb
 ·rcases hl k o h with ⟨rfl, rfl⟩ | ⟨h1, h2⟩
  ·rw [gF] at hb; cases hb
  ·rcases hl k' o' h' with ⟨rfl, rfl⟩ | ⟨h3, h4⟩
   ·rw [gF] at hb'; cases hb'
   ·rw [gf k h1] at hb; rw [gf k' h3] at hb'; exact hS.hs.dis k o k' o' h2 h4 hk b hb hb'
 ·have := hS.go.n k v hk
  exact (gn k (hne k v this)).trans this
 ·exact (gf k (hne k v (hS.go.n k v hk))).trans (hS.go.f k v hk)
 ·rcases hl k o h with ⟨rfl, rfl⟩ | ⟨h1, h2⟩
  ·rw [gF] at hb; cases hb
  ·rw [gf k h1] at hb; exact hS.fp k o h2 b hb
 ·by_cases e : k = nb
  ·subst e; exact Nat.lt_succ_self _
  ·rw [gn k e] at h; exact Nat.lt_succ_of_lt (hS.nm k v h)
end
end Go.Sx
namespace Go.Sx
open Go.Mi Go.RowKit
variable [Dfr]
def ndC (C : List (Nat × Rx)) (i : Nat) : Prop := match lkR C i with
 | some (.call q) => q.exp = q.exp
 | _ => False
section
variable {P : Program} {n : Nat} {L : DL} {H : Hp} {S0 : Nat → Prop} {g0 g : G} {w0 w : World} {nb : Nat} {a : Act} {Q : Exit → Act → World → Prop}
theorem St.len (hS : St n S0 g0 w0 L H nb a g w) (t : Nat) {nn : Bool} {e : List Fk} {xs : List (RT e)} (ht : lkD L t = some (.ls nn e xs)) : xs.length ≤ 9223372036854775807 := by
 obtain ⟨u, ls, _, h2, _⟩ := hS.fr t _ ht
 exact h2.1
theorem St.lens (hS : St n S0 g0 w0 L H nb a g w) (k : Nat) {te : TypeId} {e : List Fk} {xs : List (RT e)} (hk : lkH H k = some (.sl te e xs)) : xs.length ≤ 9223372036854775807 := by
 obtain ⟨v, ls, _, _, _, h, _⟩ := hS.hs.os k _ hk
 exact h
end
theorem wrap_nn {k : IntKind} {x : Int} (h : k.signed = false) : 0 ≤ k.wrap x := by
 have h8 := wrap_u8m x
 have h16 := wrap_u16m x
 have h32 := wrap_u32m x
 cases k with
 | u8 => omega
 | u16 => omega
 | u32 => omega
 | u64 => simp only [IntKind.wrap, IntKind.bits, IntKind.signed]; simp; omega
 | _ => cases h
theorem iadd64 {p q : Int} (h1 : -9223372036854775808 ≤ p + q) (h2 : p + q ≤ 9223372036854775807) : iadd .i64 p q = p + q := wrap_i64 h1 h2
theorem isub64 {p q : Int} (h1 : -9223372036854775808 ≤ p - q) (h2 : p - q ≤ 9223372036854775807) : isub .i64 p q = p - q := wrap_i64 h1 h2
theorem imul64 {p q : Int} (h1 : -9223372036854775808 ≤ p * q) (h2 : p * q ≤ 9223372036854775807) : imul .i64 p q = p * q := wrap_i64 h1 h2
theorem irem64 {p q : Int} (h1 : 0 ≤ p) : irem p q = p % q := Int.tmod_eq_emod_of_nonneg h1
theorem iquo64 {p q : Int} (h1 : 0 ≤ p) (h2 : 0 ≤ q) (h3 : p ≤ 9223372036854775807) : iquo .i64 p q = p / q := quo_i64 h1 h2 h3
end Go.Sx
namespace Go.Sx
open Go.Mi Go.RowKit
variable [Dfr]
noncomputable def shut {α : Type} (x : α) : α := Classical.choose (p := fun y => y = x) ⟨x, rfl⟩
theorem shut_eq {α : Type} (x : α) : shut x = x := Classical.choose_spec (p := fun y => y = x) ⟨x, rfl⟩
theorem it_next {σ : Type} {F : Nat → σ} {st : Nat → σ → σ} (hF : ∀ i, F (i + 1) = st i (F i)) {s s' : σ} {i : Nat} (hq : s = F i) (h : s' = st i s) : s' = F (i + 1) := by rw [h, hq, hF]
noncomputable def lst (P : Nat → Prop) : Nat := Classical.epsilon fun k => ¬ P k ∧ ∀ j, j < k → P j
theorem lst_eq {P : Nat → Prop} {k : Nat} (h : ¬ P k) (h' : ∀ j, j < k → P j) : k = lst P := by
 have := Classical.epsilon_spec (p := fun k => ¬ P k ∧ ∀ j, j < k → P j) ⟨k, h, h'⟩
 unfold lst
 rcases Nat.lt_trichotomy k (Classical.epsilon fun k => ¬ P k ∧ ∀ j, j < k → P j) with h1 | h1 | h1
 ·exact absurd (this.2 k h1) h
 ·exact h1
 ·exact absurd (h' _ h1) this.1
theorem lst_next {P : Nat → Prop} {k : Nat} (hk : ∀ j, j < k → P j) (h : P k) : ∀ j, j < k + 1 → P j := fun j hj => by
 rcases Nat.lt_or_eq_of_le (Nat.le_of_lt_succ hj) with h1 | h1
 ·exact hk j h1
 ·exact h1 ▸ h
def nd (a : List D) (b : List (Option O)) : Prop := (a, b) = (a, b)
theorem bne_t {b : Bool} (h : b = false) : ¬ b = true := by rw [h]; decide
end Go.Sx
namespace Go.Sx
open Go.Mi Go.RowKit
variable [Dfr]
theorem okw_sl {P : Program} {w : World} {r : Reach} {base : Nat} {t e : TypeId} {x : Addr} {len cap : Nat} (ht : P.underlying t = some (.slice e)) (h : Value.okWide P w r base t (.slice (some x) len cap)) : x.spot = none ∧ x.block < w.heap.size ∧ len ≤ cap := by
 simp only [Value.okWide, ht, Cell.okWide, Cell.ok] at h
 obtain ⟨h1, h2, h3, h4, row, cells, h5, _⟩ := h
 refine ⟨h4, ?_, h1⟩
 unfold World.shape? at h5
 rcases Nat.lt_or_ge x.block w.heap.size with h6 | h6
 ·exact h6
 ·rw [Array.getElem?_eq_none h6] at h5; simp at h5
def g00 : G := ⟨fun _ => none, fun _ => [], fun _ => False⟩
theorem hs00 (w : World) : HS (lkC []) g00 w := ⟨fun x h => h.elim, fun k o h => by simp [lkC] at h, fun k o h => by simp [lkC] at h, fun k o k' o' h => by simp [lkC] at h⟩
theorem flatv {k : IntKind} : ∀ l : List Int, (l.map fun x => [Value.int k x]).flatten = l.map (Value.int k)
 | [] => rfl
 | x :: l => by simp [flatv l]
theorem fa1 {X : Nat → Prop} {N : Nat → Option Value} {w : World} {k : IntKind} : ∀ l : List Int, Fa2 (rS X N w [.int k]) l (l.map fun x => [Value.int k x])
 | [] => trivial
 | _ :: l => ⟨⟨_, rfl, rfl⟩, fa1 l⟩
theorem lsl_of {w : World} {k : IntKind} (l : List Int) {b o c : Nat} (hc : l.length ≤ c) (hm : c ≤ maxLen) (hb : b < w.heap.size) (hat : ∀ i u, l[i]? = some u → w.cell? ⟨b, o + i, none⟩ = some (.int k u)) : Sm g00 w (.ls false [.int k] l) (vS b o l.length c) := by
 refine ⟨_, l.map fun x => [Value.int k x], rfl, ⟨Nat.le_trans hc hm, ?_, .inr ⟨b, o, c, rfl, hc, hm, id, hb, fun i u hu => ?_⟩⟩, fa1 l⟩
 ·rw [flatv, List.length_map]; exact (Nat.mul_one _).symm
 ·rw [flatv, List.getElem?_map] at hu
  obtain ⟨y, hy, rfl⟩ := Option.map_eq_some_iff.1 hu
  exact hat i y hy
theorem row_ls {w : World} {a : Option Addr} {len cap : Nat} {zs : List Int} {k : IntKind} (h : (a = none ∧ len = 0 ∧ cap = 0 ∧ zs = []) ∨
  ∃ x, a = some x ∧ len ≤ cap ∧ cap ≤ maxLen ∧ zs.length = cap ∧ (∀ i, i < zs.length → w.cell? (x.add i) = some (.int k (zs.getD i 0))) ∧ ∀ n ∈ zs, (Lit.int k n).wf = true) (ho : ∀ x, a = some x → x.spot = none ∧ x.block < w.heap.size ∧ len ≤ cap) : Sm g00 w (.ls false [.int k] (zs.take len : List Int)) (.slice a len cap) := by
 rcases h with ⟨rfl, rfl, rfl, rfl⟩ | ⟨x, rfl, h1, h2, h3, h4, _⟩
 ·exact ⟨_, [], rfl, Lsl.nil, trivial⟩
 ·obtain ⟨h5, h6, _⟩ := ho x rfl
  obtain ⟨b, o, s⟩ := x
  simp only at h5
  subst h5
  have hl : (zs.take len).length = len := by rw [List.length_take]; omega
  have key := lsl_of (w := w) (k := k) (zs.take len) (b := b) (o := o) (c := cap) (by omega) h2 h6 fun i u hu => by
   have hi : i < len := by
    rcases Nat.lt_or_ge i len with h | h
    ·exact h
    ·rw [List.getElem?_eq_none (by rw [hl]; exact h)] at hu; cases hu
   rw [List.getElem?_take_of_lt hi] at hu
   have := h4 i (by omega)
   rw [List.getD_eq_getElem?_getD, hu, Option.getD_some] at this
   rw [← add_none]; exact this
  rw [hl] at key
  exact key
theorem below_of {c : Con} {w w' : World} {g g' : G} (h0 : c.H0 = []) (h : Go (c.foot g) g w g' w') : Below w.heap.size w w' :=
 ⟨h.ch.os, h.ch.tape, h.ch.output, h.ch.size, fun k hk => h.ch.blk k hk fun ⟨j, o, h1, _⟩ => by rw [h0] at h1; simp [lkC] at h1⟩
theorem law_calls {P : Program} {f : FuncId} {c : Con} (h : ConOk P f c) (h0 : c.H0 = []) (hr : c.res = .v (.bool true)) {w : World} {vs : List Value} (hv : sem g00.X g00.N w (chain c.args) true vs) : Calls P f vs.toArray w fun e w' => e = .returned (.bool true) ∧ Below w.heap.size w w' := by
 refine (h.2 vs g00 w (by rw [h0]; exact hs00 w) (fun k v hk => by cases hk) hv).mono fun e w' ⟨v, he, g', hp⟩ => ?_
 have h1 := hp.r
 rw [hr] at h1
 have h2 : v = .bool true := Sm.eq h1
 subst h2
 exact ⟨he, below_of h0 hp.go⟩
end Go.Sx
namespace Go.Sx
open Go.Mi Go.RowKit
variable [Dfr]
def pn (v : Value) : Ending := .panicked [{ v, recovered := false }]
section
variable {P : Program} {n nb nb' : Nat} {l : List Oper} {rows : List Rw} {L0 : DL} {H0 : Hp} {S0 : Nat → Prop} {g0 : G} {w0 : World} {Q : Exit → Act → World → Prop} {a : Act} {w : World}
theorem wpOp_mono {ops : Array Oper} {i : Nat} {K K' : Act → World → Prop} (h : ∀ a w, K a w → K' a w) (hh : wpOp P ops Q i K a w) : wpOp P ops Q i K' a w := by
 unfold wpOp at hh ⊢
 split
 ·rename_i e; rw [e] at hh; exact h _ _ hh
 ·rename_i o e
  rw [e] at hh
  simp only at hh
  split
  ·rename_i hw
   rw [if_pos hw] at hh
   exact hh.imp (Oper.wp_mono h) id
  ·rename_i hw
   rw [if_neg hw] at hh
   exact h _ _ hh
end
end Go.Sx
namespace Go.Sx
open Go.Mi Go.RowKit
variable [Dfr]
theorem bne_k {b : Bool} (h : ¬ b = true) : b = false := by cases b <;> simp_all
end Go.Sx
namespace Go.Sx
open Go.Mi Go.RowKit
variable [Dfr]
end Go.Sx
namespace Go.Sx
open Go.Mi Go.RowKit
variable [Dfr]
end Go.Sx
namespace Go.Sx
open Go.Mi Go.RowKit
variable [Dfr]
end Go.Sx
namespace Go.Sx
open Go.Mi Go.RowKit
variable [Dfr]
section
variable {P : Program} {X X' : Nat → Prop} {N N' : Nat → Option Value} {w w' : World} {g g' : G}
theorem OS_same {k : Nat} {o : O} (hp : o.plain = true) (hn : ∀ i ∈ o.nm, g'.N i = g.N i) (hk : g'.N k = g.N k) (hf : g'.F k = g.F k) (hx : ∀ x, g'.X x → g.X x) (h : OS g w k o) : OS g' w k o := by
 have h1 : OS (⟨g'.N, g'.F, g.X⟩ : G) w k o := by
  have h0 := (OS_ren (g := g) (g' := g) (r := id) hp (fun _ _ => rfl) rfl rfl rfl).2 h
  exact (OS_ren (g := g) (g' := (⟨g'.N, g'.F, g.X⟩ : G)) (r := id) hp hn hk hf rfl).1 h0
 have gs : Goes g.X g'.N w (fun _ => False) g'.X g'.N w := ⟨Chp.refl _ _, fun _ h => h.elim, fun x h => .inl (hx x h), fun _ _ h => h⟩
 cases o with
 | ob ty d =>
  obtain ⟨b, c, h1, h2, h3, h4, h5⟩ := h1
  exact ⟨b, c, h1, h2, h3, sem_mv gs _ _ _ h4, h5⟩
 | sl ty e xs =>
  obtain ⟨v, ls, h1, h2, h3, h4, h5, h6⟩ := h1
  exact ⟨v, ls, h1, h2, h3, h4, h5.mono (rS_mv gs _), h6⟩
theorem lkC_mem' : ∀ {H : Hc} {k : Nat} {o : O}, lkC H k = some o → (k, o) ∈ H
 | (s, u) :: r, k, o, h => by
  simp only [lkC] at h
  by_cases e : s = k
  ·subst e; simp at h; subst h; exact List.mem_cons_self ..
  ·rw [beqf e] at h; exact List.mem_cons_of_mem _ (lkC_mem' h)
end
end Go.Sx
namespace Go.Sx
open Go.Mi Go.RowKit
variable [Dfr]
section
variable {P : Program}
theorem lkC_app {A B : Hc} {k : Nat} {o : O} (h : lkC A k = some o) : lkC (A ++ B) k = some o := by
 induction A with
 | nil => cases h
 | cons p A ih =>
  obtain ⟨s, u⟩ := p
  simp only [List.cons_append, lkC] at h ⊢
  by_cases e : s = k
  ·subst e; simpa using h
  ·rw [beqf e] at h ⊢; exact ih h
theorem lkC_last {A : Hc} {k : Nat} {o : O} (hk : memN k (keys A) = false) : lkC (A ++ [(k, o)]) k = some o := by
 induction A with
 | nil => simp [lkC]
 | cons p A ih =>
  obtain ⟨s, u⟩ := p
  have hne : ¬ s = k := fun e => by
   subst e
   rw [memN_iff.2 (by simp [keys])] at hk; cases hk
  simp only [List.cons_append, lkC]
  rw [beqf hne]
  refine ih ?_
  cases hm : memN k (keys A) with
  | false => rfl
  | true =>
   rw [memN_iff.2 (by simp only [keys, List.map_cons, List.mem_cons]; exact .inr (memN_iff.1 hm))] at hk
   cases hk
theorem ConOk.frz {f : FuncId} {ays : List D} {H0 : Hc} (H1 : Hc) (k te : Nat) (e : List Fk) (xs : List (RT e)) (h : ConOk P f ⟨ays, H0, .sk k, H1 ++ [(k, .sl te e xs)]⟩) (hk : (!(memN k (keys H1)) && H1.all fun p => allNmO (keys H1) p.2) = true) : ConOk P f ⟨ays, H0, .ls false e xs, H1⟩ := by
 refine ⟨h.1, fun vs g w hS hN hv => (h.2 vs g w hS hN hv).mono fun r w' he => ?_⟩
 simp only [Bool.and_eq_true, List.all_eq_true, Bool.not_eq_true'] at hk
 obtain ⟨c1, c2⟩ := hk
 obtain ⟨v, rfl, g', hp⟩ := he
 have hl := lkC_last (A := H1) (o := .sl te e xs) c1
 have up : ∀ j o, lkC H1 j = some o → lkC (H1 ++ [(k, .sl te e xs)]) j = some o := fun j o hj => lkC_app hj
 have ne : ∀ j o, lkC H1 j = some o → j ≠ k := fun j o hj e => by
  subst e
  have hm : j ∈ keys H1 := List.mem_map.2 ⟨_, lkC_mem' hj, rfl⟩
  rw [memN_iff.2 hm] at c1; cases c1
 let gg : G := ⟨g'.N, g'.F, fun x => g'.X x ∧ x ∉ g'.F k⟩
 obtain ⟨u, ls, n1, n2, n3, n4, n5, n6⟩ := hp.hs.os k _ hl
 have gs : Goes g'.X g'.N w' (fun _ => False) gg.X gg.N w' := ⟨Chp.refl _ _, fun _ h => h.elim, fun x h => .inl h.1, fun _ _ h => h⟩
 have hr : v = u := by
  obtain ⟨u', h1, h2, _⟩ := hp.r
  rw [n1] at h1
  cases h1
  exact (List.cons.inj h2).1
 refine ⟨v, rfl, gg, ⟨hp.go.ch, hp.go.s, fun x hx => hp.go.x x hx.1, fun x hx hn => ⟨hp.go.k x hx hn, fun hk => ?_⟩, hp.go.n, hp.go.f⟩, ?_, ⟨fun x hx => hp.hs.wf x hx.1, fun j o hj => ?_, fun j o hj b hb => ⟨hp.hs.own j o (up j o hj) b hb, fun hk => hp.hs.dis j o k _ (up j o hj) hl (ne j o hj) b hb hk⟩, fun j o j' o' hj hj' => hp.hs.dis j o j' o' (up j o hj) (up j' o' hj')⟩, fun j o hj => hp.fp j o (up j o hj)⟩
 ·rcases hp.fp k _ hl x hk with h1 | h1
  ·exact hn h1
  ·have := hS.wf x hx; omega
 ·subst hr
  refine ⟨v, ls, rfl, ⟨n4, by rw [flat_len n5.row, n5.len], ?_⟩, n5.mono (rS_mv gs _)⟩
  rcases n3.2 with ⟨e1, h0⟩ | ⟨b, cap, cur, e1, k2, k3, k4, k5, k6, k7⟩
  ·exact .inl ⟨rfl, h0, e1⟩
  ·refine .inr ⟨b, 0, cap, e1, k4, k5, fun hx => hx.2 (by rw [n2, e1]; simp [oblk]), OS.lt (hp.hs.os k _ hl) b (by rw [n2, e1]; simp [oblk]), ?_⟩
   rcases n3.at with ⟨e2, _⟩ | ⟨b', cap', e2, _, h3⟩
   ·rw [e1] at e2; cases e2
   ·rw [e1] at e2; cases e2; exact h3
 ·have hc := c2 (j, o) (lkC_mem' hj)
  simp only [allNmO, Bool.and_eq_true, List.all_eq_true] at hc
  exact OS_same (g := g') (g' := gg) hc.1 (fun _ _ => rfl) rfl rfl (fun x hx => hx.1) (hp.hs.os j o (up j o hj))
end
end Go.Sx
namespace Go.Sx
open Go.Mi Go.RowKit
variable [Dfr]
end Go.Sx
namespace Go.Sx
open Go.Mi Go.RowKit
variable [Dfr]
section
variable {P : Program} {g : G} {w : World} {H : Hp}
def RetD (P : Program) (f : FuncId) (u u' : FrameMode) (vs : List Value) (w : World) (R : Value → World → Prop) : Prop := CallsD P f vs.toArray u w fun e x w' => ∃ v, e = .returned v ∧ x = u' ∧ R v w'
theorem RetD.mono {f : FuncId} {u u' : FrameMode} {vs : List Value} {w : World} {R R' : Value → World → Prop} (h : RetD P f u u' vs w R) (hr : ∀ v w', R v w' → R' v w') : RetD P f u u' vs w R' :=
 CallsD.mono h fun _ _ w' ⟨v, h1, h2, h3⟩ => ⟨v, h1, h2, hr v w' h3⟩
end
end Go.Sx
namespace Go.Sx
open Go.Mi Go.RowKit
variable [Dfr]
end Go.Sx
namespace Go.Sx
open Go.Mi Go.RowKit
variable [Dfr]
def lkR3 : List (Nat × CR × List Nat) → Nat → Option (CR × List Nat)
 | [], _ => none
 | (s, v) :: r, t => bif Nat.beq s t then some v else lkR3 r t
def C3Ok (P : Program) : List (Nat × CR × List Nat) → Prop
 | [] => True
 | (_, q, _) :: r => ConOk P q.f q.c ∧ C3Ok P r
theorem C3Ok.at {P : Program} : ∀ {C : List (Nat × CR × List Nat)} {i : Nat} {q : CR} {ks : List Nat}, C3Ok P C → lkR3 C i = some (q, ks) → ConOk P q.f q.c
 | (s, x) :: r, i, q, ks, h, hl => by
  simp only [lkR3] at hl
  by_cases e : s = i
  ·subst e; simp at hl; subst hl; exact h.1
  ·rw [beqf e] at hl; exact h.2.at hl
end Go.Sx
namespace Go.Sx
open Go.Mi Go.RowKit
variable [Dfr]
theorem rounds_s {P : Program} {c : Code} {Q : Exit → Act → World → Prop} {n : Nat} {a : Act} {w : World} (h : c.wp P (Exit.then (Code.rounds P c Q n) Q) a w) : Code.rounds P c Q (n + 1) a w := h
end Go.Sx
namespace Go.Sx
open Go.Mi Go.RowKit
variable [Dfr]
abbrev Sg := DL × Hp
def Sp (n : Nat) (S0 : Nat → Prop) (g0 : G) (w0 : World) (σ : Sg) (nb : Nat) (a : Act) (g : G) (w : World) : Prop := St n S0 g0 w0 σ.1 σ.2 nb a g w
abbrev Px := Option (List Prop × DL × Hp × Nat)
def xS : Px → Sg
 | some (_, L, H, _) => (L, H)
 | none => ([], [])
def xP (r : Px) : Option (List Prop × Nat) := r.map fun x => (x.1, x.2.2.2)
theorem xP_of {r : Px} {ps : List Prop} {nb : Nat} (h : xP r = some (ps, nb)) : r = some (ps, (xS r).1, (xS r).2, nb) := by
 obtain ⟨⟨p, L, H, m⟩, rfl, h2⟩ := Option.map_eq_some_iff.1 h
 simp only [Prod.mk.injEq] at h2
 obtain ⟨rfl, rfl⟩ := h2
 rfl
abbrev vi (x : Int) : D := .v (.int .i64 x)
abbrev lb (x : List Int) : D := .ls false [.int .u8] x
theorem lnn {p : Prop} (h : p := by first | omega | (simp only [List.length_append, List.length_drop, List.length_take, List.length_replicate, List.length_cons, List.length_nil, List.length_map, List.length_range] <;> omega) | (simp <;> omega)) : p := h
theorem omm {p : Prop} (h : p := by omega) : p := h
theorem asm {p : Prop} (h : p := by assumption) : p := h
section
variable {P : Program} {n : Nat} {L : DL} {H : Hp} {σ : Sg} {S0 : Nat → Prop} {g0 g : G} {w0 w : World} {nb : Nat} {a : Act} {Q : Exit → Act → World → Prop}
theorem SS.sp (hS : St n S0 g0 w0 L H nb a g w) : Sp n S0 g0 w0 (L, H) nb a g w := hS
theorem Sp.st (hS : Sp n S0 g0 w0 σ nb a g w) : St n S0 g0 w0 σ.1 σ.2 nb a g w := hS
abbrev plS (n : Nat) (ops : List Oper) (ex : Ex) (σ : Sg) (nb : Nat) (kL kH : List Nat) : Px := plX n ops ex σ.1 σ.2 nb kL kH
theorem reg_y {id : Nat} {dr : Bool} {ops : List Oper} {ex : Ex} (hm : P.follows .mixedOrders = true) (hex : ExOk P n ex) (ps : List Prop) (kL kH : List Nat) (nb' : Nat) (hp : AllP ps) (hS : Sp n S0 g0 w0 σ nb a g w) (hend : ∀ a g w, Sp n S0 g0 w0 (xS (plS n ops ex σ nb kL kH)) nb' a g w → Q .normal a w)
  (h : xP (plS n ops ex σ nb kL kH) = some (ps, nb')) (hle : Nat.ble nb nb' = true) : (Code.region id ops.toArray dr).wp P Q a w :=
 region_x hm hex (xP_of h) hp hle hS hend
theorem Sp.rv (hS : Sp n S0 g0 w0 σ nb a g w) (L' : DL) (H' : Hp) (hL : pickD σ.1 (keys L') = L' := by kernel_rfl) (hH : pickH σ.2 (keys H') = H' := by kernel_rfl) : St n S0 g0 w0 L' H' nb a g w :=
 SS.weak hS (fun t d ht => (lk_pickD (ts := keys L') (by rw [hL]; exact ht)).2) (fun k o hk => lkH_pick (ts := keys H') (by rw [hH]; exact hk)) fun _ h => h
theorem if_y {x y : Code} {c : Operand} (t : Bool) (hS : Sp n S0 g0 w0 σ nb a g w) (ht : t = true → x.wp P Q a w) (hf : t = false → y.wp P Q a w) (hc : opD σ.1 c = some (.v (.bool t)) := by kernel_rfl) : (Code.cond c x y).wp P Q a w :=
 if_x hS.st hc ht hf
theorem if_d {x y : Code} {c : Operand} (p : Prop) [Decidable p] (hS : Sp n S0 g0 w0 σ nb a g w) (ht : p → x.wp P Q a w) (hf : ¬ p → y.wp P Q a w) (hc : opD σ.1 c = some (.v (.bool (decide p))) := by kernel_rfl) : (Code.cond c x y).wp P Q a w :=
 if_x hS.st hc (fun h => ht (of_decide_eq_true h)) fun h => hf (of_decide_eq_false h)
theorem if_n {x y : Code} {c : Operand} (p : Prop) [Decidable p] (hS : Sp n S0 g0 w0 σ nb a g w) (ht : ¬ p → x.wp P Q a w) (hf : p → y.wp P Q a w) (hc : opD σ.1 c = some (.v (.bool (!decide p))) := by kernel_rfl) : (Code.cond c x y).wp P Q a w :=
 if_x hS.st hc (fun h => ht fun hp => by rw [decide_eq_true hp] at h; cases h) fun h => hf (by simpa using h)
theorem cond_t {x y : Code} {c : Operand} (hS : Sp n S0 g0 w0 σ nb a g w) (h : x.wp P Q a w) (hc : opD σ.1 c = some (.v (.bool true)) := by kernel_rfl) : (Code.cond c x y).wp P Q a w :=
 if_x hS.st hc (fun _ => h) fun h => nomatch h
theorem cond_f {x y : Code} {c : Operand} (hS : Sp n S0 g0 w0 σ nb a g w) (h : y.wp P Q a w) (hc : opD σ.1 c = some (.v (.bool false)) := by kernel_rfl) : (Code.cond c x y).wp P Q a w :=
 if_x hS.st hc (fun h => nomatch h) fun _ => h
theorem Sp.ren {ks0 : List Nat} (hg0 : ∀ k v, g0.N k = some v → k ∈ ks0) (hS : Sp n S0 g0 w0 σ nb a g w) (ρ : Ren) (L' : DL) (H' : Hc) (nb' : Nat) (hc : chkRen ρ ks0 L' H' nb' = true) (hL : pickD σ.1 (keys L') = L'.map fun p => (p.1, p.2.ren (rn ρ))) (hH : (H'.map fun p => lkH σ.2 (rn ρ p.1)) = H'.map fun p => some (p.2.ren (rn ρ))) : ∃ g', St n S0 g0 w0 L' (hpC H') nb' a g' w := by
 refine St.ren hg0 hS.st ρ L' H' nb' hc hL ?_
 clear hc hL
 induction H' with
 | nil => trivial
 | cons p r ih =>
  obtain ⟨j, o⟩ := p
  simp only [List.map_cons, List.cons.injEq] at hH
  exact ⟨hH.1, ih hH.2⟩
theorem Sp.rn {ks0 : List Nat} (hS : Sp n S0 g0 w0 σ nb a g w) (ρ : Ren) (L' : DL) (H' : Hc) (nb' : Nat) (hg0 : ∀ k v, g0.N k = some v → k ∈ ks0) (hc : chkRen ρ ks0 L' H' nb' = true := by kernel_rfl) (hL : pickD σ.1 (keys L') = L'.map fun p => (p.1, p.2.ren (rn ρ)) := by kernel_rfl) (hH : (H'.map fun p => lkH σ.2 (rn ρ p.1)) = (H'.map fun p => some (p.2.ren (rn ρ))) := by kernel_rfl) : ∃ g', Sp n S0 g0 w0 (L', hpC H') nb' a g' w :=
 Sp.ren hg0 hS ρ L' H' nb' hc hL hH
theorem loop_y {ι : Type} {code : Code} {ks0 : List Nat} (hg0 : ∀ k v, g0.N k = some v → k ∈ ks0) (hS : Sp n S0 g0 w0 σ nb a g w) (m : ι → Nat) (Li : ι → DL) (Hi : ι → Hc) (Pi : ι → Prop) (nb' : Nat) (s0 : ι) (ρ : Ren) (hP : Pi s0)
  (step : ∀ s a g w, Pi s → Sp n S0 g0 w0 (Li s, hpC (Hi s)) nb' a g w → code.wp P (Exit.then (fun a' w' => ∃ s', m s' < m s ∧ Pi s' ∧ ∃ g', Sp n S0 g0 w0 (Li s', hpC (Hi s')) nb' a' g' w') Q) a w)
  (h1 : chkRen ρ ks0 (Li s0) (Hi s0) nb' = true := by kernel_rfl) (h2 : pickD σ.1 (keys (Li s0)) = (Li s0).map fun p => (p.1, p.2.ren (rn ρ)) := by kernel_rfl) (h3 : ((Hi s0).map fun p => lkH σ.2 (rn ρ p.1)) = ((Hi s0).map fun p => some (p.2.ren (rn ρ))) := by kernel_rfl) : (Code.loop code).wp P Q a w := by
 obtain ⟨g', hS'⟩ := Sp.ren hg0 hS ρ (Li s0) (Hi s0) nb' h1 h2 h3
 exact loop_x m Li (fun s => hpC (Hi s)) Pi s0 hP hS' step
theorem next_y {ι : Type} {ks0 : List Nat} (hg0 : ∀ k v, g0.N k = some v → k ∈ ks0) (hS : Sp n S0 g0 w0 σ nb a g w) {m : ι → Nat} {Li : ι → DL} {Hi : ι → Hc} {Pi : ι → Prop} {nb' : Nat} {s : ι} (s' : ι) (ρ : Ren) (hm : m s' < m s) (hP : Pi s') (h1 : chkRen ρ ks0 (Li s') (Hi s') nb' = true := by kernel_rfl) (h2 : pickD σ.1 (keys (Li s')) = (Li s').map fun p => (p.1, p.2.ren (rn ρ)) := by kernel_rfl) (h3 : ((Hi s').map fun p => lkH σ.2 (rn ρ p.1)) = ((Hi s').map fun p => some (p.2.ren (rn ρ))) := by kernel_rfl) :
  ∃ s', m s' < m s ∧ Pi s' ∧ ∃ g', Sp n S0 g0 w0 (Li s', hpC (Hi s')) nb' a g' w := by
 obtain ⟨g', hS'⟩ := Sp.ren hg0 hS ρ (Li s') (Hi s') nb' h1 h2 h3
 exact ⟨s', hm, hP, g', hS'⟩
def frd (nn : Bool) : Option O → D
 | some (.sl _ e xs) => .ls nn e xs
 | _ => .top
def isSl : Option O → Bool
 | some (.sl ..) => true
 | _ => false
theorem isSl_of {o : Option O} (h : isSl o = true) : ∃ te e xs, o = some (.sl te e xs) := by
 cases o with
 | none => cases h
 | some o => cases o with
  | ob => cases h
  | sl te e xs => exact ⟨te, e, xs, rfl⟩
theorem Sp.fz (hS : Sp n S0 g0 w0 σ nb a g w) (k : Nat) (hk : isSl (lkH σ.2 k) = true := by kernel_rfl) : ∃ g', Sp n S0 g0 w0 (σ.1.map fun p => (p.1, p.2.sb k (fun o => .cp k o) (frd false (lkH σ.2 k))), (k, none) :: σ.2.map fun p => (p.1, p.2.map (O.sb · k (fun o => .cp k o) (frd false (lkH σ.2 k))))) nb a g' w := by
 obtain ⟨te, e, xs, h⟩ := isSl_of hk
 rw [h]
 exact St.frz hS.st k false nofun h rfl rfl
theorem Sp.nilk (hS : Sp n S0 g0 w0 σ nb a g w) (t : Nat) (te : TypeId) (e : List Fk) (ht : lkD σ.1 t = some (.v (.slice none 0 0)) := by kernel_rfl) : ∃ g', Sp n S0 g0 w0 (upL t (.sk nb) σ.1, (nb, some (.sl te e [])) :: σ.2) (nb + 1) a g' w :=
 St.nilk hS.st t te e ht rfl rfl
theorem fin_y (hD : Dfr.ds = ([] : List Deferred)) {fn : Func} {c : Con} {e : Exit} (he : e = .normal ∨ e = .ret) (hS : Sp n (c.foot g0) g0 w0 σ nb a g w) (ds : List D) (Hx : Hp) (hr : weak (resD ds) c.res = c.res) (h1 : H1Ok Hx c.H1 true) (h : exRvs P σ.1 σ.2 fn.results.toList = some ds := by kernel_rfl) (hx : pickH σ.2 (keys Hx) = Hx := by kernel_rfl) : bodyPost P fn (Ret fun v w' => ∃ g', CPost c g0 w0 v g' w') e a w := by
 refine fin_x hD he hS.st h hr ?_
 have key : ∀ (r : Hc), H1Ok Hx r true → H1Ok σ.2 r true := by
  intro r
  induction r with
  | nil => exact fun h => h
  | cons p r ih =>
   obtain ⟨k, o⟩ := p
   exact fun h => ⟨lkH_pick (ts := keys Hx) (by rw [hx]; exact h.1), ih h.2⟩
 exact key _ h1
end
end Go.Sx
