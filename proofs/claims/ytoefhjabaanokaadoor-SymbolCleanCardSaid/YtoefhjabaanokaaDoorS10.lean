/- Sends of a run: their indexes, their epochs, and that their keys are unlike. Plain laws. -/
import Derived.Test.YtoefhjabaanokaaDoorH35
set_option linter.unusedSimpArgs false
set_option linter.unusedVariables false
set_option linter.unnecessarySimpa false
namespace Go.Mi.Term
def rf (l : List Ky) (w : Nat) : Nat := l.countP fun e => e.who == w
theorem pi (l : List Ky) (e : Ky) (w : Nat) : rf (l ++ [e]) w = rf l w + if e.who = w then 1 else 0 := by
 unfold rf
 rw [List.countP_append]
 by_cases h : e.who = w <;> simp [h]
structure Ord (r : Rn) : Prop where
 inv : ∃ G rv S cl pos, Inv r G rv S cl pos ∧ ∀ (j j' : Nat) (s s' : Snd), S[j]? = some s → S[j']? = some s' → j < j' → s.1 = s'.1 → s.2.1 = s'.2.1 → s.2.2.1 < s'.2.2.1
 ix : ∀ (i : Nat) e, r.keys[i]? = some e → e.who < 2 ∧ e.ix = rf (r.keys.take i) e.who ∧ e.ep < r.eps.length
 nx : ∀ w, w < 2 → r.ix w = rf r.keys w
 mono : ∀ (i : Nat) e e', r.keys[i]? = some e → r.keys[i + 1]? = some e' → e.ep ≤ e'.ep
theorem Ord.new (kem : Bool) : Ord (Rn.new kem) := by
 have e : (Rn.new kem).keys = [] := by cases kem <;> rfl
 refine ⟨⟨_, _, _, _, _, Inv.new kem, fun j j' s s' h => by simp at h⟩, fun i e' h => ?_, fun w _ => ?_, fun i e' e'' h => ?_⟩
 ·rw [e] at h; simp at h
 ·rw [e]; cases kem <;> rfl
 ·rw [e] at h; simp at h
theorem Ord.same {r r' : Rn} (h : Ord r) (hi : ∀ {G rv S cl pos}, Inv r G rv S cl pos → ∃ G' rv' cl' pos', Inv r' G' rv' S cl' pos') (hk : r'.keys = r.keys) (hx : ∀ w, r'.ix w = r.ix w) (he : r.eps.length ≤ r'.eps.length) : Ord r' := by
 obtain ⟨⟨G, rv, S, cl, pos, h1, h2⟩, h3, h4, h5⟩ := h
 obtain ⟨G', rv', cl', pos', h6⟩ := hi h1
 refine ⟨⟨_, _, _, _, _, h6, h2⟩, fun i e hh => ?_, fun w hw => by rw [hx, hk]; exact h4 w hw, by rw [hk]; exact h5⟩
 rw [hk] at hh ⊢
 obtain ⟨k1, k2, k3⟩ := h3 i e hh
 exact ⟨k1, k2, by omega⟩
theorem Ord.send {r : Rn} (h : Ord r) {w : Nat} (hw : w < 2) (hN : r.names < 1000000) : Ord (r.send w) := by
 obtain ⟨⟨G, rv, S, cl, pos, h1, h2⟩, h3, h4, h5⟩ := h
 have hp := h1.E.pos
 refine ⟨⟨_, _, _, _, _, h1.send hw hN, fun j j' s s' hj c l d f => ?_⟩, fun i e hh => ?_, fun w' g => ?_, fun i e e' hh b => ?_⟩
 ·rcases getElem?_snoc c with ⟨hl, c⟩ | ⟨hl, rfl⟩
  ·rcases getElem?_snoc hj with ⟨_, hj⟩ | ⟨hl2, _⟩
   ·exact h2 j j' s s' hj c l d f
   ·omega
  ·rcases getElem?_snoc hj with ⟨_, hj⟩ | ⟨hl2, _⟩
   ·obtain ⟨e, _, _, _, _, _, _, _, k, _⟩ := h1.ky j s hj
    have := k d
    rw [f] at this
    exact this
   ·omega
 ·have a : (r.send w).keys = r.keys ++ [⟨r.key w, r.eps.length - 1, w, r.ix w⟩] := rfl
  rw [a] at hh ⊢
  rcases getElem?_snoc hh with ⟨hl, hh⟩ | ⟨hl, rfl⟩
  ·obtain ⟨k1, k2, k3⟩ := h3 i e hh
   exact ⟨k1, by rw [List.take_append_of_le_length (by omega)]; exact k2, k3⟩
  ·subst hl
   refine ⟨hw, ?_, by show r.eps.length - 1 < r.eps.length; omega⟩
   rw [List.take_append_of_le_length (Nat.le_refl _), List.take_length]
   exact h4 w hw
 ·have a : (r.send w).keys = r.keys ++ [⟨r.key w, r.eps.length - 1, w, r.ix w⟩] := rfl
  rw [a, pi]
  show up r.ix w (r.ix w + 1) w' = _
  by_cases e : w' = w
  ·subst e; rw [ex, h4 w' g, if_pos rfl]
  ·rw [fq e, h4 w' g, if_neg (fun h => e h.symm)]; rfl
 ·have a : (r.send w).keys = r.keys ++ [⟨r.key w, r.eps.length - 1, w, r.ix w⟩] := rfl
  rw [a] at hh b
  rcases getElem?_snoc b with ⟨hl', b⟩ | ⟨hl', rfl⟩
  ·rcases getElem?_snoc hh with ⟨hl, hh⟩ | ⟨hl, _⟩
   ·exact h5 i e e' hh b
   ·omega
  ·rcases getElem?_snoc hh with ⟨hl, hh⟩ | ⟨hl, _⟩
   ·have := (h3 i e hh).2.2
    show e.ep ≤ r.eps.length - 1
    omega
   ·omega
theorem Ord.doAct {r : Rn} (h : Ord r) (hg : Good r) (kind who : Int) (kem : Bool) : Ord (r.doAct kind who kem) := by
 have hn := hg.sz.nm
 have hc : Ord r.count := h.same (fun hi => ⟨_, _, _, _, hi.world _ _ _⟩) rfl (fun _ => rfl) (Nat.le_refl _)
 rcases r.doAct_eq kind who kem with ⟨_, e⟩ | ⟨_, ha, ⟨j, _, hj, _, e⟩ | ⟨j, _, hj, _, e⟩ | ⟨j, _, hj, _, e⟩ | ⟨_, e⟩ | ⟨_, e⟩⟩
 ·rw [e]; exact h
 ·rw [e]; exact hc.send hj (by show r.names < 1000000; omega)
 ·rw [e]
  refine hc.same (fun hi => ?_) (by cases kem <;> rfl) (fun _ => by cases kem <;> rfl) ?_
  ·obtain ⟨G', cl', k⟩ := hi.turn hj kem (by show r.names < 900000; omega)
   exact ⟨_, _, _, _, k⟩
  ·have : (r.count.turn j kem).eps.length = r.eps.length + 1 := by
    cases kem <;> simp [Rn.turn, Rn.drawX, Rn.begin, Rn.rooted, Rn.chains, Rn.ended, Rn.drawKem, Rn.draw, Rn.sees, Rn.count]
   rw [this]; show r.eps.length ≤ _; omega
 ·rw [e]
  refine hc.same (fun hi => ?_) rfl (fun _ => rfl) ?_
  ·obtain ⟨G', rv', k⟩ := hi.reveal hj
   exact ⟨_, _, _, _, k⟩
  ·show r.eps.length ≤ ((r.count.sees _ |>.told _).told _).marked.eps.length
   simp [Rn.marked, Rn.told, Rn.sees, Rn.count]
 ·rw [e]; exact hc.same (fun hi => ⟨_, _, _, _, hi.world _ _ _⟩) rfl (fun _ => rfl) (Nat.le_refl _)
 ·rw [e]; exact hc.same (fun hi => ⟨_, _, _, _, hi.world _ _ _⟩) rfl (fun _ => rfl) (Nat.le_refl _)
def acR (kem : Bool) (l : List Ac) (i : Nat) : Rn := (l.take i).foldl (fun r a => r.doAct a.k a.who a.kem) (Rn.new kem)
theorem rC {kem : Bool} {l : List Ac} {i : Nat} {a : Ac} (h : l[i]? = some a) : (acR kem l i).doAct a.k a.who a.kem = acR kem l (i + 1) := by
 simp only [acR, cY h, List.foldl_append, List.foldl_cons, List.foldl_nil]
theorem xV (kem : Bool) (l : List Ac) (i : Nat) : Good (acR kem l i) ∧ Ord (acR kem l i) := by
 have key : ∀ (l : List Ac) (r : Rn), Good r → Ord r → Good (l.foldl (fun r a => r.doAct a.k a.who a.kem) r) ∧ Ord (l.foldl (fun r a => r.doAct a.k a.who a.kem) r) := by
  intro l
  induction l with
  | nil => exact fun r h k => ⟨h, k⟩
  | cons a l ih => exact fun r h k => ih _ (h.doAct _ _ _) (k.doAct h _ _ _)
 exact key _ _ (Good.new kem) (Ord.new kem)
theorem acG (kem : Bool) (l : List Ac) (i : Nat) : Good (acR kem l i) := (xV kem l i).1
end Go.Mi.Term
