/- What the enemy sees of sends: a box for each, in their order. Plain laws. -/
import Derived.Test.YtoefhjabaanokaaDoorS10
set_option linter.unusedSimpArgs false
set_option linter.unusedVariables false
set_option linter.unnecessarySimpa false
namespace Go.Mi.Term
def isBx (t : Tm) : Bool := decide (t.kind = 7)
def nbx (r : Rn) (i : Nat) : Nat := ((r.known.take i).filter isBx).length
def BoxR (r : Rn) : Prop := ∃ G rv S cl pos, Inv r G rv S cl pos ∧ r.known.filter isBx = (r.keys.zip S).map fun p => eT p.1.t p.2.2.2.2
theorem BoxR.new (kem : Bool) : BoxR (Rn.new kem) := ⟨_, _, _, _, _, Inv.new kem, by cases kem <;> rfl⟩
theorem BoxR.same {r r' : Rn} (h : BoxR r) (l : List Tm) (hl : l.filter isBx = []) (hi : ∀ {G rv S cl pos}, Inv r G rv S cl pos → ∃ G' rv' cl' pos', Inv r' G' rv' S cl' pos') (hk : r'.keys = r.keys) (hn : r'.known = r.known ++ l) : BoxR r' := by
 obtain ⟨G, rv, S, cl, pos, h1, h2⟩ := h
 obtain ⟨G', rv', cl', pos', h6⟩ := hi h1
 exact ⟨_, _, _, _, _, h6, by rw [hn, hk, List.filter_append, hl, List.append_nil, h2]⟩
theorem BoxR.send {r : Rn} (h : BoxR r) {w : Nat} (hw : w < 2) (hN : r.names < 1000000) : BoxR (r.send w) := by
 obtain ⟨G, rv, S, cl, pos, h1, h2⟩ := h
 refine ⟨_, _, _, _, _, h1.send hw hN, ?_⟩
 show (r.known ++ [eT (r.key w) r.names]).filter isBx = (List.zip (r.keys ++ [_]) (S ++ [_])).map _
 rw [List.filter_append, h2, List.zip_append h1.len, List.map_append]
 rfl
theorem chn_kind (e : GE) (w : Nat) : ∀ i, (chn e w i).kind = 6
 | 0 => rfl
 | _ + 1 => rfl
theorem BoxR.doAct {r : Rn} (h : BoxR r) (hg : Good r) (kind who : Int) (kem : Bool) : BoxR (r.doAct kind who kem) := by
 have hn := hg.sz.nm
 have hc : BoxR r.count := h.same [] rfl (fun hi => ⟨_, _, _, _, hi.world _ _ _⟩) rfl (by simp [Rn.count])
 rcases r.doAct_eq kind who kem with ⟨_, e⟩ | ⟨_, ha, ⟨j, _, hj, _, e⟩ | ⟨j, _, hj, _, e⟩ | ⟨j, _, hj, _, e⟩ | ⟨_, e⟩ | ⟨_, e⟩⟩
 ·rw [e]; exact h
 ·rw [e]; exact hc.send hj (by show r.names < 1000000; omega)
 ·rw [e]
  have hi : ∀ {G rv S cl a}, Inv r.count G rv S cl a → ∃ G' b c pos', Inv (r.count.turn j kem) G' b S c pos' := fun hi => by
   obtain ⟨G', c, k⟩ := hi.turn hj kem (by show r.names < 900000; omega)
   exact ⟨_, _, _, _, k⟩
  cases kem with
  | false => exact hc.same [pT r.names] rfl hi rfl rfl
  | true => exact hc.same [pT r.names, pT (r.names + 1), ctT (r.names + 1) (r.names + 2)] rfl hi rfl (by simp [Rn.turn, Rn.drawX, Rn.begin, Rn.rooted, Rn.chains, Rn.ended, Rn.drawKem, Rn.draw, Rn.sees, Rn.count])
 ·rw [e]
  obtain ⟨G, rv, S, cl, a, h1, h2⟩ := hc
  have hr : ∀ t, t ∈ [aT (r.count.id j), aT (r.count.x j), r.count.root, r.count.ch 0, r.count.ch 1] → isBx t = false := by
   intro t ht
   simp only [List.mem_cons, List.not_mem_nil, or_false] at ht
   unfold isBx
   rcases ht with rfl | rfl | rfl | rfl | rfl
   ·rfl
   ·rfl
   ·rw [h1.rt]; rfl
   ·rw [h1.ch 0 (by omega), chn_kind]; rfl
   ·rw [h1.ch 1 (by omega), chn_kind]; rfl
  refine BoxR.same (r := r.count) ⟨G, rv, S, cl, a, h1, h2⟩ [aT (r.count.id j), aT (r.count.x j), r.count.root, r.count.ch 0, r.count.ch 1] (List.filter_eq_nil_iff.2 fun t ht => by rw [hr t ht]; simp) (fun hi => ?_) rfl rfl
  obtain ⟨G', b, k⟩ := hi.reveal hj
  exact ⟨_, _, _, _, k⟩
 ·rw [e]; exact hc.same [] rfl (fun hi => ⟨_, _, _, _, hi.world _ _ _⟩) rfl (by simp [Rn.count])
 ·rw [e]; exact hc.same [] rfl (fun hi => ⟨_, _, _, _, hi.world _ _ _⟩) rfl (by simp [Rn.count])
theorem acB (kem : Bool) (l : List Ac) (i : Nat) : BoxR (acR kem l i) := by
 have key : ∀ (l : List Ac) (r : Rn), Good r → BoxR r → BoxR (l.foldl (fun r a => r.doAct a.k a.who a.kem) r) := by
  intro l
  induction l with
  | nil => exact fun r h k => k
  | cons a l ih => exact fun r h k => ih _ (h.doAct _ _ _) (k.doAct h _ _ _)
 exact key _ _ (Good.new kem) (BoxR.new kem)
theorem nbx_no {r : Rn} {i : Nat} {u : Tm} (h : r.known[i]? = some u) (hk : ¬u.kind = 7) : nbx r (i + 1) = nbx r i := by
 unfold nbx
 rw [take_next h, List.filter_append, List.length_append]
 simp [isBx, hk]
theorem nbx_yes {r : Rn} {i : Nat} {u : Tm} (h : r.known[i]? = some u) (hk : u.kind = 7) : nbx r (i + 1) = nbx r i + 1 := by
 unfold nbx
 rw [take_next h, List.filter_append, List.length_append]
 simp [isBx, hk]
theorem BoxR.all {r : Rn} (h : BoxR r) : nbx r r.known.length = r.keys.length := by
 obtain ⟨G, rv, S, cl, pos, h1, h2⟩ := h
 unfold nbx
 rw [List.take_length, h2, List.length_map, List.length_zip, h1.len, Nat.min_self]
theorem BoxR.at {r : Rn} (h : BoxR r) (hg : Good r) {i : Nat} {u : Tm} (hu : r.known[i]? = some u) (hk : u.kind = 7) : ∃ (e : Ky) (x : Nat), r.keys[nbx r i]? = some e ∧ u = eT e.t x ∧ may e.t = true ∧ (r.open? (aT x) ↔ r.cleanZ (nbx r i : Nat) = false) := by
 obtain ⟨G, rv, S, cl, pos, h1, h2⟩ := h
 have hl : (r.known.filter isBx)[nbx r i]? = some u := by
  have e : r.known = r.known.take i ++ u :: r.known.drop (i + 1) := by
   obtain ⟨b, hg⟩ := List.getElem?_eq_some_iff.1 hu
   rw [← hg, ← List.drop_eq_getElem_cons b, List.take_append_drop]
  have e2 : r.known.filter isBx = (r.known.take i).filter isBx ++ u :: (r.known.drop (i + 1)).filter isBx := by
   conv => lhs; rw [e]
   rw [List.filter_append, List.filter_cons, if_pos (by simp [isBx, hk])]
  rw [e2]
  unfold nbx
  rw [List.getElem?_append_right (Nat.le_refl _), Nat.sub_self]
  rfl
 rw [h2, List.getElem?_map, Option.map_eq_some_iff] at hl
 obtain ⟨⟨e, s⟩, k1, k2⟩ := hl
 rw [List.getElem?_zip_eq_some] at k1
 obtain ⟨k3, k4⟩ := k1
 have hj := lt_of_atT k3
 obtain ⟨s', e', q1, q2, q3, q4, q5⟩ := h1.law hj
 rw [k4] at q1
 cases q1
 rw [k3] at q2
 cases q2
 have ha := hg.ac
 have hf := hg.sz.ky e (List.mem_of_getElem? k3)
 obtain ⟨_, _, p1, p2, _, _, _, _, _, p8, _⟩ := h1.at hj
 rw [k4] at p1
 cases p1
 refine ⟨e, s.2.2.2, k3, k2.symm, hf.may (by omega) (by omega), ?_⟩
 have p8 : s.2.2.2 < r.names := p8
 have a := fine_a (n := s.2.2.2) (by have := hg.sz.nm; omega)
 have hz : r.cleanZ (nbx r i : Nat) = r.cleanB (nbx r i) := by
  unfold Rn.cleanZ
  rw [if_pos ⟨by omega, by omega⟩, Int.toNat_natCast]
 unfold Rn.open?
 rw [hg.kn, a.nm, hz, ← q5]
 exact ⟨fun k => k.2, fun k => ⟨a.may (by omega) (by omega), k⟩⟩
end Go.Mi.Term
