/- Walks: what the laws' own functions return. -/
import Derived.Test.YtoefhjabaanokaaDoorV5
import Derived.Test.YtoefhjabaanokaaDoorB8
import Derived.Test.YtoefhjabaanokaaDoorB2
set_option linter.unusedSimpArgs false
set_option linter.unusedVariables false
set_option linter.unnecessarySimpa false
namespace Go.Mi.Term
open Go.Mi Go.Proofs Go.RowKit
set_option linter.unusedVariables false
/-- what is there, of so many -/
def selH (hv : Nat → Bool) (l i : Nat) : List Nat := (List.range i).filter fun j => decide (j < l) && hv j
def allH (hv : Nat → Bool) (l i : Nat) : Bool := (List.range i).all fun j => decide (j < l) && hv j
def cellsA (l : List Nat) : List Value := l.flatMap fun (i : Nat) => [.int .i64 1, .int .i64 (i : Int), .slice none 0 0]
theorem cellsA_snoc (l : List Nat) (i : Nat) : cellsA (l ++ [i]) = cellsA l ++ [.int .i64 1, .int .i64 (i : Int), .slice none 0 0] := by simp [cellsA]
theorem cells1A {l : List Nat} : ∀ u ∈ cellsA l, u.oneCell' = true := by
 intro u hu
 simp only [cellsA, List.mem_flatMap] at hu
 obtain ⟨i, _, hu⟩ := hu
 simp at hu
 rcases hu with rfl | rfl | rfl <;> rfl
theorem isTs_atoms {w : World} {X : List Nat} : ∀ l : List Nat, IsTs w X (atomsT l) (cellsA l)
 | [] => by simp [atomsT, cellsA, IsTs]
 | i :: l => by
  have h := isTs_atoms (w := w) (X := X) l
  show IsTs w X (Tm.mk 1 (i : Int) [] :: atomsT l) _
  simp only [IsTs]
  exact ⟨_, _, rfl, isT_atom w X _, h⟩
section
variable {hv : Nat → Bool} {l i : Nat} {w : World} {base e : Nat} {v : Value}
theorem selH_yes (h : i < l) (h2 : hv i = true) : selH hv l (i + 1) = selH hv l i ++ [i] := by simp [selH, List.range_succ, List.filter_append, h, h2]
theorem selH_no (h : ¬ (i < l ∧ hv i = true)) : selH hv l (i + 1) = selH hv l i := by
 simp only [selH, List.range_succ, List.filter_append]
 simp only [List.append_right_eq_self, List.filter_eq_nil_iff, List.mem_singleton]
 rintro a rfl
 simpa using h
theorem allH_succ : allH hv l (i + 1) = (allH hv l i && (decide (i < l) && hv i)) := by simp [allH, List.range_succ, List.all_append]
theorem own_sel1 (h : i < l) (h2 : hv i = true) (k : Own w base e 3 v ((selH hv l i).length + 1) (cellsA (selH hv l i) ++ [.int .i64 1, .int .i64 (i : Int), .slice none 0 0])) : Own w base e 3 v (selH hv l (i + 1)).length (cellsA (selH hv l (i + 1))) := by
 rw [selH_yes h h2, cellsA_snoc, List.length_append]; exact k
theorem own_sel0 (h : ¬ (i < l ∧ hv i = true)) (k : Own w base e 3 v (selH hv l i).length (cellsA (selH hv l i))) : Own w base e 3 v (selH hv l (i + 1)).length (cellsA (selH hv l (i + 1))) := by
 rw [selH_no h]; exact k
theorem all_yes {al : Bool} (ha : al = allH hv l i) (h : i < l ∧ hv i = true) : al = allH hv l (i + 1) := by rw [allH_succ, ← ha]; simp [h.1, h.2]
theorem all_no (h : ¬ (i < l ∧ hv i = true)) : false = allH hv l (i + 1) := by
 rw [allH_succ]
 cases h1 : (decide (i < l) && hv i) with
 | false => simp
 | true => exact absurd (by simpa using h1) h
theorem own_rng (k : Own w base e 3 v (i + 1) (cellsA (List.range i) ++ [.int .i64 1, .int .i64 (i : Int), .slice none 0 0])) : Own w base e 3 v (i + 1) (cellsA (List.range (i + 1))) := by
 rw [List.range_succ, cellsA_snoc]; exact k
theorem selH_len : (selH hv l i).length ≤ i := by
 have := List.length_filter_le (fun j => decide (j < l) && hv j) (List.range i)
 simpa [selH] using this
theorem selH_lt : ∀ j, j ∈ selH hv l i → j < i := by
 intro j hj
 simp [selH] at hj
 exact hj.1
theorem mem_selH {j : Nat} (hj : j < i) : j ∈ selH hv l i ↔ j < l ∧ hv j = true := by
 simp [selH, hj]
theorem dis_k {lvk lvk' lvl : Value} {n : Nat} (hob : oblk lvk' = oblk lvk ∨ oblk lvk' = [n]) (h : ∀ b, b ∈ oblk lvl → b ∉ oblk lvk) (hl : ∀ b, b ∈ oblk lvl → b < n) : ∀ b, b ∈ oblk lvl → b ∉ oblk lvk' := by
 intro b hb
 rcases hob with h1 | h1
 ·rw [h1]; exact h b hb
 ·rw [h1]; have := hl b hb; simp; omega
theorem dis_l {lvk lvl lvl' : Value} {n : Nat} (hob : oblk lvl' = oblk lvl ∨ oblk lvl' = [n]) (h : ∀ b, b ∈ oblk lvl → b ∉ oblk lvk) (hk : ∀ b, b ∈ oblk lvk → b < n) : ∀ b, b ∈ oblk lvl' → b ∉ oblk lvk := by
 intro b hb hm
 rcases hob with h1 | h1
 ·rw [h1] at hb; exact h b hb hm
 ·rw [h1] at hb; simp at hb; have := hk b hm; omega
theorem own_some {n m : Nat} {xs : List Value} (h : Own w base e m v n xs) (hn : 0 < n) : ∃ b cap, v = .slice (some ⟨b, 0, none⟩) n cap ∧ n ≤ cap ∧ At w b 0 xs ∧ base ≤ b ∧ b < w.heap.size := by
 rcases h.at with ⟨_, h0, _⟩ | ⟨b, cap, rfl, h1, h2⟩
 ·omega
 ·have := h.lt b (by simp [oblk])
  exact ⟨b, cap, rfl, h1, h2, this.1, this.2⟩
theorem sla_own {X : List Nat} {n m : Nat} {xs : List Value} (h : Own w base e m v n xs) (hx : ∀ b, b ∈ oblk v → b ∉ X) : SlA w X v n xs := by
 rcases h.at with ⟨h1, h2, h3⟩ | ⟨b, cap, rfl, h1, h2⟩
 ·exact .inl ⟨h1, h2, h3⟩
 ·exact .inr ⟨b, 0, cap, rfl, hx b (by simp [oblk]), (h.lt b (by simp [oblk])).2, h2⟩
theorem SlA.sub {X X' : List Nat} {n : Nat} {xs : List Value} (h : SlA w X v n xs) (hx : ∀ x, x ∈ X' → x ∈ X) : SlA w X' v n xs := SlA.mv h (Ch.refl [] w) (by simp) (fun x hm => .inl (hx x hm))
theorem hash_isT {X : List Nat} {N cap b : Nat} (hb : b ∉ X) (hlt : b < w.heap.size) (ha : At w b 0 (cellsA (List.range N))) : IsT w X (hashT N) [.int .i64 6, .int .i64 0, .slice (some ⟨b, 0, none⟩) N cap] := by
 have hl : N = (atomsT (List.range N)).length := by simp [atomsT]
 unfold hashT
 simp only [IsT]
 refine ⟨_, cellsA (List.range N), rfl, .inr ⟨b, 0, cap, ?_, hb, hlt, ha⟩, isTs_atoms _⟩
 rw [← hl]
theorem cellsA_len (l : List Nat) : (cellsA l).length = l.length * 3 := by
 induction l with
 | nil => rfl
 | cons i l ih => simp only [cellsA, List.flatMap_cons, List.length_append, List.length_cons, List.length_nil] at ih ⊢; omega
/-- Knows, by what may be derived -/
theorem Knows_own_is {W : Wd} {known : List Tm} {t : Tm} {b : Bool} (hb : b = true ↔ may t = true ∧ Der W (Kn known) (nrm t)) {base : Nat} {X X' : List Nat} {lv : Value} {xs : List Value} {k nm : Int} {ad2 : Option Addr} {l2 cap2 : Nat} (w0 : World) (hw0 : T0 w0) (hkl : known.length ≤ 100000000)
 (hown : Own w0 base 26 3 lv known.length xs) (hks : IsTs w0 X known xs) (ht : IsT w0 X' t [.int .i64 k, .int .i64 nm, .slice ad2 l2 cap2]) :
 Calls Tryd.prog 19 (List.toArray [.agg #[.bool W.dh, .bool W.kem], lv, .agg #[.int .i64 k, .int .i64 nm, .slice ad2 l2 cap2]]) w0 (Ret fun v w' => v = .bool b ∧ Gr w0 w') := by
 obtain ⟨b', h1, h2⟩ := Knows_at_own (W := W) w0 hw0 hkl hown hks ht
 have : b = b' := by rw [Bool.eq_iff_iff, hb, h1]
 subst this
 exact h2
theorem Knows_sla_is {W : Wd} {known : List Tm} {t : Tm} {b : Bool} (hb : b = true ↔ may t = true ∧ Der W (Kn known) (nrm t)) {n : Nat} {X X' X2 : List Nat} {lv : Value} {xs : List Value} {k nm : Int} {ad2 : Option Addr} {l2 cap2 : Nat} (w0 : World) (hw0 : T0 w0) (hkl : known.length ≤ 100000000)
 (hn : n = known.length) (hsl : SlA w0 X2 lv n xs) (hks : IsTs w0 X known xs) (ht : IsT w0 X' t [.int .i64 k, .int .i64 nm, .slice ad2 l2 cap2]) :
 Calls Tryd.prog 19 (List.toArray [.agg #[.bool W.dh, .bool W.kem], lv, .agg #[.int .i64 k, .int .i64 nm, .slice ad2 l2 cap2]]) w0 (Ret fun v w' => v = .bool b ∧ Gr w0 w') := by
 subst hn
 obtain ⟨ad, cap, rfl, h3⟩ := hsl.form
 obtain ⟨b', h1, h2⟩ := Knows_at (W := W) w0 hw0 hkl (fun h => by obtain ⟨b, o, e, _, h4⟩ := h3 h; exact ⟨b, o, e, by simp, h4⟩) (hks.sub (by simp)) (ht.sub (by simp))
 have : b = b' := by rw [Bool.eq_iff_iff, hb, h1]
 subst this
 exact h2
end
section
variable {P : Program} {n : Nat} {L : List (Nat × Value)} {w : World} {ds : Option Nat} {ty : TypeId} {pos : String} {af : Array Edge} {gu : Option (Nat × Bool)}
theorem ok_append00S {s x : Operand} {t e : TypeId} {z : Value} {base m bytes k b : Nat} {lv : Value} {news : List Value} {X : List Nat} (ht : P.underlying t = some (.slice e)) (hi : (P.info? e).map (fun i => (i.size, i.bytes, i.zero)) = some (m, bytes, some z))
 (hzs : z.cells.size = m) (hm0 : 0 < m) (hs : ev L s = some (.slice (some ⟨b, 0, none⟩) 0 0)) (hx : ev L x = some lv) (hb : w.heap[b]? = some (.cells #[] e (0, 0))) (hbb : base ≤ b) (hsl : SlA w X lv k news) (hl : news.length = k * m)
 (h1 : ∀ u ∈ news, u.oneCell' = true) (hby : k * bytes ≤ 140737488355328) (h63 : k ≤ maxLen) (hbase : base ≤ w.heap.size) :
 Ok1 P ⟨ds, .call ⟨.builtin .append, #[s, x], #[t, t]⟩, ty, pos, af, gu⟩ n L w fun v' w' => Own w' base e m v' k news ∧ Ch [] w w' ∧ (oblk v' = [b] ∨ oblk v' = [w.heap.size]) :=
 ok_append00g ht hi hzs hm0 hs hx hb hbb hl (by
  rcases hsl with h | ⟨b2, o2, cap, h, _, _, ha⟩
  ·exact .inl h
  ·exact .inr ⟨b2, o2, cap, h, ha⟩) h1 hby h63 hbase
end
section
variable {hv : Nat → Bool} {l N : Nat}
theorem hash_b1 (h1 : 1 ≤ N) (h8 : N ≤ 8) {al : Bool} (hal : al = allH hv l N) : al = true ↔ may (hashT N) = true ∧ Der ⟨false, false⟩ (Kn (atomsT (selH hv l N))) (nrm (hashT N)) := by
 rw [hash_nrm, hash_know h1 h8 (fun i hi => by have := selH_lt i hi; omega), hal]
 simp only [hash_may h1 h8, true_and]
 constructor
 ·intro h i hi
  rw [mem_selH hi]
  simp only [allH, List.all_eq_true, List.mem_range, Bool.and_eq_true, decide_eq_true_eq] at h
  exact h i hi
 ·intro h
  simp only [allH, List.all_eq_true, List.mem_range, Bool.and_eq_true, decide_eq_true_eq]
  intro i hi
  exact (mem_selH hi).1 (h i hi)
theorem hash_b2 (h1 : 1 ≤ N) (h8 : N ≤ 8) {i : Nat} (hi : i < N) : false = true ↔ may (Tm.mk 1 (i : Int) []) = true ∧ Der ⟨false, false⟩ (Kn [hashT N]) (nrm (Tm.mk 1 (i : Int) [])) := by
 have h := hash_tells (W := ⟨false, false⟩) (l := []) h1 h8 (by simp) (i := i) (by omega)
 rw [nrm_atom]
 simp only [Bool.false_eq_true, false_iff, not_and]
 intro _ hd
 have := h.1 hd
 simp at this
theorem hash_b3 (h1 : 1 ≤ N) (h8 : N ≤ 8) {i : Nat} (hi : i < N) {b : Bool} (hb : b = true ↔ i < l ∧ hv i = true) : b = true ↔ may (Tm.mk 1 (i : Int) []) = true ∧ Der ⟨false, false⟩ (Kn (atomsT (selH hv l N) ++ [hashT N])) (nrm (Tm.mk 1 (i : Int) [])) := by
 rw [nrm_atom, hb, hash_tells h1 h8 (fun i hi => by have := selH_lt i hi; omega) (by omega), mem_selH hi]
 simp [may_atom (n := (i : Int)) (by omega) (by omega)]
theorem not_lt_bool {i : Nat} (h : ¬ i < l) : (false = true ↔ i < l ∧ hv i = true) := by simp [h]
theorem is_lt_bool {i : Nat} (h : i < l) : (hv i = true ↔ i < l ∧ hv i = true) := by simp [h]
end

set_option maxRecDepth 100000 in
set_option maxHeartbeats 4000000 in
theorem hashes_walk {n : Int} {ad : Option Addr} {l cap bh oh : Nat} {hv : Nat → Bool} (hl63 : l ≤ 9223372036854775807) (w0 : World) (hw0 : T0 w0) (hadx : 0 < l → ad = some ⟨bh, oh, none⟩ ∧ ∀ j, j < l → w0.cell? ⟨bh, oh + j, none⟩ = some (.bool (hv j))) : Calls Tryd.prog 5 (List.toArray [.int .i64 n, .slice ad l cap]) w0 (Ret fun v w' => v = .bool true ∧ Gr w0 w') := by
 refine calls_of Tryd.func5 rfl Tryd.ntmps5 rfl fun ac hF => ?_
 have hC : Ch [] w0 w0 := Ch.refl _ _
 have hF := hF.sub (L' := [(0, (vI n)), (1, (Value.slice ad l cap))]) ⟨rfl, rfl, trivial⟩
 refine wp_seq ?_
 refine wp_region_lit ?_
 refine wl (d_assign rfl) rfl hF (fun ac hF => ?_)
 refine wl_nil ?_
 refine then_n ?_
 refine wp_seq ?_
 refine wp_seq ?_
 refine wp_region_lit ?_
 refine wl (d_move rfl) rfl hF (fun ac hF => ?_)
 by_cases hn1 : n < 1
 ·have hdec_ : decide (n < 1) = true := decide_eq_true hn1
  have hdec_hn1 := hdec_
  refine wl (d_bool (c := true) (d_lss rfl rfl) (hdec_hn1)) rfl hF (fun ac hF => ?_)
  refine wl (d_move rfl) rfl hF (fun ac hF => ?_)
  refine wlgs (c := true) rfl rfl rfl hF (fun ac hF => ?_)
  refine wlgs (c := true) rfl rfl rfl hF (fun ac hF => ?_)
  refine wl (d_pick (b := true) rfl rfl) rfl hF (fun ac hF => ?_)
  refine wl_nil ?_
  refine then_n ?_
  refine wp_cond_true (hF.eval rfl) ?_
  refine wp_seq ?_
  refine wp_region_lit ?_
  refine wlR (ok_call c15 rfl (awake_calls _ (hT0 _ _ (hC.below hw0.size (by simp)) hw0))) rfl hF ?_
  rintro _ w ac ⟨rfl, hg_⟩ hF
  have hch_ : Ch [] _ w := Gr.ch hg_
  have hC := hC.trans' hch_ (fun z hz => .inr (absurd hz (by simp)))
  refine wl (d_assign rfl) rfl hF (fun ac hF => ?_)
  refine wl_nil ?_
  refine then_n ?_
  refine wp_ret ?_
  refine then_ret ?_
  refine body_ret hF (results1 Tryd.results5 (RV.tmp hF rfl)) ?_
  exact ⟨rfl, hC.gr⟩
 ·have hdec_ : decide (n < 1) = false := decide_eq_false hn1
  have hdec_hn1 := hdec_
  refine wl (d_bool (c := false) (d_lss rfl rfl) (hdec_hn1)) rfl hF (fun ac hF => ?_)
  refine wl (d_move rfl) rfl hF (fun ac hF => ?_)
  refine wlg rfl (d_move rfl) rfl hF (fun ac hF => ?_)
  by_cases hn8 : 8 < n
  ·have hdec_ : decide (8 < n) = true := decide_eq_true hn8
   have hdec_hn8 := hdec_
   refine wlg rfl (d_bool (c := true) (d_gtr rfl rfl) (hdec_hn8)) rfl hF (fun ac hF => ?_)
   refine wl (d_pick (b := false) rfl rfl) rfl hF (fun ac hF => ?_)
   refine wl_nil ?_
   refine then_n ?_
   refine wp_cond_true (hF.eval rfl) ?_
   refine wp_seq ?_
   refine wp_region_lit ?_
   refine wlR (ok_call c15 rfl (awake_calls _ (hT0 _ _ (hC.below hw0.size (by simp)) hw0))) rfl hF ?_
   rintro _ w ac ⟨rfl, hg_⟩ hF
   have hch_ : Ch [] _ w := Gr.ch hg_
   have hC := hC.trans' hch_ (fun z hz => .inr (absurd hz (by simp)))
   refine wl (d_assign rfl) rfl hF (fun ac hF => ?_)
   refine wl_nil ?_
   refine then_n ?_
   refine wp_ret ?_
   refine then_ret ?_
   refine body_ret hF (results1 Tryd.results5 (RV.tmp hF rfl)) ?_
   exact ⟨rfl, hC.gr⟩
  ·have hdec_ : decide (8 < n) = false := decide_eq_false hn8
   have hdec_hn8 := hdec_
   obtain ⟨N, rfl⟩ : ∃ N : Nat, n = (N : Int) := ⟨n.toNat, by omega⟩
   have hN : 1 ≤ N ∧ N ≤ 8 := by omega
   refine wlg rfl (d_bool (c := false) (d_gtr rfl rfl) (hdec_hn8)) rfl hF (fun ac hF => ?_)
   refine wl (d_pick (b := false) rfl rfl) rfl hF (fun ac hF => ?_)
   refine wl_nil ?_
   refine then_n ?_
   refine wp_cond_false (hF.eval rfl) ?_
   refine wp_skip ?_
   refine then_n ?_
   refine wp_seq ?_
   refine wp_region_lit ?_
   refine wl (d_assign rfl) rfl hF (fun ac hF => ?_)
   refine wl (d_assign rfl) rfl hF (fun ac hF => ?_)
   refine wl_nil ?_
   refine then_n ?_
   refine wp_seq ?_
   refine wp_region_lit ?_
   refine wl (d_assign rfl) rfl hF (fun ac hF => ?_)
   refine wl_nil ?_
   refine then_n ?_
   refine wp_seq ?_
   refine wp_seq ?_
   refine wp_region_lit ?_
   refine wl (d_assign rfl) rfl hF (fun ac hF => ?_)
   refine wl_nil ?_
   refine then_n ?_
   refine wp_block ?_
   refine wp_loop_k (fun fu_ ac w => ∃ (i : Nat) (al : Bool) (lvk lvl : Value), fu_ = N - i ∧ (i ≤ N) ∧ (al = allH hv l i) ∧ Frm ac 87 [(0, (vI (N : Int))), (1, (Value.slice ad l cap)), (5, lvk), (6, lvl), (7, (vB al)), (8, (vI (i : Int)))] ∧ (Ch [] w0 w) ∧ (Own w w0.heap.size 26 3 lvk i (cellsA (List.range i))) ∧ (Own w w0.heap.size 26 3 lvl (selH hv l i).length (cellsA (selH hv l i))) ∧ (∀ b, b ∈ oblk lvl → b ∉ oblk lvk) ∧ True) _ ⟨0, true, .slice none 0 0, .slice none 0 0, rfl, (by omega), rfl, hF.sub ⟨rfl, rfl, rfl, rfl, rfl, rfl, trivial⟩, ⟨hC, (Own.nil _ _ _ _), (Own.nil _ _ _ _), (by simp [oblk]), trivial⟩⟩ ?_
   rintro _ ac w ⟨i, al, lvk, lvl, rfl, hiN, hal, hF, ⟨hC, hok, hown, hdis, _⟩⟩
   refine wp_seq ?_
   refine wp_seq ?_
   refine wp_region_lit ?_
   refine wl (d_move rfl) rfl hF (fun ac hF => ?_)
   refine wl (d_move rfl) rfl hF (fun ac hF => ?_)
   refine wl (d_lss rfl rfl) rfl hF (fun ac hF => ?_)
   refine wl_nil ?_
   refine then_n ?_
   refine wp_if hF rfl (fun h => ?_) (fun h => ?_)
   ·have hlt := of_decide_eq_true h
    clear h
    refine wp_skip ?_
    refine then_n ?_
    refine wp_seq ?_
    refine wp_block ?_
    refine wp_seq ?_
    refine wp_region_lit ?_
    refine wl (d_move rfl) rfl hF (fun ac hF => ?_)
    refine wl (d_move rfl) rfl hF (fun ac hF => ?_)
    refine wlR (ok_call c16 rfl (atom_calls _)) rfl hF ?_
    rintro _ w ac ⟨rfl, hg_⟩ hF
    have hch_ : Ch [] _ w := Gr.ch hg_
    have hC := hC.trans' hch_ (fun z hz => .inr (absurd hz (by simp)))
    have hok := Own.mv hok hch_ (fun b_ hb_ => by first | (simp; done) | exact fun hm_ => hdis b_ hm_ hb_)
    have hown := Own.mv hown hch_ (fun b_ hb_ => by first | (simp; done) | exact hdis b_ hb_ | (intro hm_; simp at hm_; subst hm_; contradiction))
    refine wlR (ok_buildSlice (cells := #[(vI 1), (vI (i : Int)), vN]) Tryd.underlying24 zz26 rfl (by decide) (by decide) (by exact fillT1)) rfl hF ?_
    rintro _ w ac ⟨b1, rfl, hnb_⟩ hF
    have hch_ : Ch [] _ w := hnb_.ch
    have lo_ := hnb_.lo hC.size
    have hC := hC.trans' hch_ (fun z hz => .inr (absurd hz (by simp)))
    have hok := Own.mv hok hch_ (fun b_ hb_ => by first | (simp; done) | exact fun hm_ => hdis b_ hm_ hb_)
    have hown := Own.mv hown hch_ (fun b_ hb_ => by first | (simp; done) | exact hdis b_ hb_ | (intro hm_; simp at hm_; subst hm_; contradiction))
    have hib1 : b1 < w.heap.size := hnb_.lt
    have lob1 : w0.heap.size ≤ b1 := lo_
    have hb1 : At w b1 0 [(vI 1), (vI (i : Int)), vN] := hnb_.at
    have hq0_ := hok
    have hsl_ := selH_len (hv := hv) (l := l) (i := i)
    refine wlR (ok_appendm (m := 3) (k := 1) (b := b1) (o := 0) (news := [(vI 1), (vI (i : Int)), vN]) Tryd.underlying24 ii26 rfl (by decide) rfl rfl hok rfl hb1 (IsT.cells1 (isT_atom w [] _)) (by omega) (by unfold maxLen; omega) hC.size) rfl hF ?_
    rintro lv2 w ac ⟨hok, hch0_, hob⟩ hF
    have hch_ : Ch (oblk lvk) _ w := hch0_
    have hdis2_ := dis_k hob hdis (fun b hb => (Own.lt hown b hb).2)
    have hC := hC.trans' hch_ (fun z hz => .inr ((Own.lt hq0_ z hz).1))
    have hown := Own.mv hown hch_ (fun b_ hb_ => by first | (simp; done) | exact hdis b_ hb_ | (intro hm_; simp at hm_; subst hm_; contradiction))
    have hok : Own w w0.heap.size 26 3 lv2 (i + 1) (cellsA (List.range (i + 1))) := own_rng hok
    have hdis : ∀ b, b ∈ oblk lvl → b ∉ oblk lv2 := hdis2_
    refine wl (d_assign rfl) rfl hF (fun ac hF => ?_)
    refine wl_nil ?_
    refine then_n ?_
    refine wp_seq ?_
    refine wp_region_lit ?_
    refine wl (d_move rfl) rfl hF (fun ac hF => ?_)
    refine wl (d_move rfl) rfl hF (fun ac hF => ?_)
    refine wl (d_len_slice Tryd.underlying36 rfl) rfl hF (fun ac hF => ?_)
    by_cases hil : (i : Int) < (l : Int)
    ·have hdec_ : decide ((i : Int) < (l : Int)) = true := decide_eq_true hil
     have hdec_hil := hdec_
     have hiln : i < l := by omega
     obtain ⟨hae, hcell⟩ := hadx (by omega)
     refine wl (d_bool (c := true) (d_lss rfl rfl) (hdec_hil)) rfl hF (fun ac hF => ?_)
     refine wl (d_move rfl) rfl hF (fun ac hF => ?_)
     refine wlg rfl (d_move rfl) rfl hF (fun ac hF => ?_)
     refine wlg rfl (d_move rfl) rfl hF (fun ac hF => ?_)
     refine wlg rfl (d_ixSQ (b := bh) (o := oh) (j := i) (q := oh + i) Tryd.underlying36 sz4 (by rw [← hae]; rfl) rfl rfl (by omega) rfl) rfl hF (fun ac hF => ?_)
     refine wlg rfl (d_load1 Tryd.underlying4 rfl rfl (old_cell (hC.drop (by simp)) (hcell i (by omega)))) rfl hF (fun ac hF => ?_)
     refine wl (d_pick (b := true) rfl rfl) rfl hF (fun ac hF => ?_)
     refine wl_nil ?_
     refine then_n ?_
     refine wp_if hF rfl (fun h => ?_) (fun h => ?_)
     ·have hc := h
      clear h
      have hsel : i < l ∧ hv i = true := ⟨hiln, hc⟩
      refine wp_region_lit ?_
      refine wl (d_move rfl) rfl hF (fun ac hF => ?_)
      refine wl (d_move rfl) rfl hF (fun ac hF => ?_)
      refine wlR (ok_call c16 rfl (atom_calls _)) rfl hF ?_
      rintro _ w ac ⟨rfl, hg_⟩ hF
      have hch_ : Ch [] _ w := Gr.ch hg_
      have hC := hC.trans' hch_ (fun z hz => .inr (absurd hz (by simp)))
      have hok := Own.mv hok hch_ (fun b_ hb_ => by first | (simp; done) | exact fun hm_ => hdis b_ hm_ hb_)
      have hown := Own.mv hown hch_ (fun b_ hb_ => by first | (simp; done) | exact hdis b_ hb_ | (intro hm_; simp at hm_; subst hm_; contradiction))
      refine wlR (ok_buildSlice (cells := #[(vI 1), (vI (i : Int)), vN]) Tryd.underlying24 zz26 rfl (by decide) (by decide) (by exact fillT1)) rfl hF ?_
      rintro _ w ac ⟨b3, rfl, hnb_⟩ hF
      have hch_ : Ch [] _ w := hnb_.ch
      have lo_ := hnb_.lo hC.size
      have hC := hC.trans' hch_ (fun z hz => .inr (absurd hz (by simp)))
      have hok := Own.mv hok hch_ (fun b_ hb_ => by first | (simp; done) | exact fun hm_ => hdis b_ hm_ hb_)
      have hown := Own.mv hown hch_ (fun b_ hb_ => by first | (simp; done) | exact hdis b_ hb_ | (intro hm_; simp at hm_; subst hm_; contradiction))
      have hib3 : b3 < w.heap.size := hnb_.lt
      have lob3 : w0.heap.size ≤ b3 := lo_
      have hb3 : At w b3 0 [(vI 1), (vI (i : Int)), vN] := hnb_.at
      have hq0_ := hown
      have hsl_ := selH_len (hv := hv) (l := l) (i := i)
      refine wlR (ok_appendm (m := 3) (k := 1) (b := b3) (o := 0) (news := [(vI 1), (vI (i : Int)), vN]) Tryd.underlying24 ii26 rfl (by decide) rfl rfl hown rfl hb3 (IsT.cells1 (isT_atom w [] _)) (by omega) (by unfold maxLen; omega) hC.size) rfl hF ?_
      rintro lv4 w ac ⟨hown, hch0_, hob⟩ hF
      have hch_ : Ch (oblk lvl) _ w := hch0_
      have hdis2_ := dis_l hob hdis (fun b hb => (Own.lt hok b hb).2)
      have hC := hC.trans' hch_ (fun z hz => .inr ((Own.lt hq0_ z hz).1))
      have hok := Own.mv hok hch_ (fun b_ hb_ => by first | (simp; done) | exact fun hm_ => hdis b_ hm_ hb_)
      have hdis : ∀ b, b ∈ oblk lv4 → b ∉ oblk lv2 := hdis2_
      refine wl (d_assign rfl) rfl hF (fun ac hF => ?_)
      refine wl_nil ?_
      refine block_n ?_
      refine then_n ?_
      refine wp_region_lit ?_
      refine wl (d_move rfl) rfl hF (fun ac hF => ?_)
      refine wl (d_add rfl rfl (wrap_i64 (by omega) (by omega))) rfl hF (fun ac hF => ?_)
      refine wl (d_assign rfl) rfl hF (fun ac hF => ?_)
      refine wl_nil ?_
      refine then_n ?_
      refine ⟨_, ?_, i + 1, _, _, _, rfl, (by omega), (by first | exact all_yes hal hsel | exact all_no hnsel), hF.sub ⟨rfl, rfl, rfl, rfl, rfl, rfl, trivial⟩, ⟨hC, hok, (by first | exact own_sel1 hsel.1 hsel.2 hown | exact own_sel0 hnsel hown), hdis, trivial⟩⟩
      omega
     ·have hc := h
      clear h
      have hnsel : ¬ (i < l ∧ hv i = true) := fun h => by rw [h.2] at hc; cases hc
      refine wp_region_lit ?_
      refine wl (d_assign rfl) rfl hF (fun ac hF => ?_)
      refine wl_nil ?_
      refine block_n ?_
      refine then_n ?_
      refine wp_region_lit ?_
      refine wl (d_move rfl) rfl hF (fun ac hF => ?_)
      refine wl (d_add rfl rfl (wrap_i64 (by omega) (by omega))) rfl hF (fun ac hF => ?_)
      refine wl (d_assign rfl) rfl hF (fun ac hF => ?_)
      refine wl_nil ?_
      refine then_n ?_
      refine ⟨_, ?_, i + 1, _, _, _, rfl, (by omega), (by first | exact all_yes hal hsel | exact all_no hnsel), hF.sub ⟨rfl, rfl, rfl, rfl, rfl, rfl, trivial⟩, ⟨hC, hok, (by first | exact own_sel1 hsel.1 hsel.2 hown | exact own_sel0 hnsel hown), hdis, trivial⟩⟩
      omega
    ·have hdec_ : decide ((i : Int) < (l : Int)) = false := decide_eq_false hil
     have hdec_hil := hdec_
     have hiln : ¬ i < l := by omega
     have hnsel : ¬ (i < l ∧ hv i = true) := fun h => hiln h.1
     refine wl (d_bool (c := false) (d_lss rfl rfl) (hdec_hil)) rfl hF (fun ac hF => ?_)
     refine wl (d_move rfl) rfl hF (fun ac hF => ?_)
     refine wlgs (c := false) rfl rfl rfl hF (fun ac hF => ?_)
     refine wlgs (c := false) rfl rfl rfl hF (fun ac hF => ?_)
     refine wlgs (c := false) rfl rfl rfl hF (fun ac hF => ?_)
     refine wlgs (c := false) rfl rfl rfl hF (fun ac hF => ?_)
     refine wl (d_pick (b := false) rfl rfl) rfl hF (fun ac hF => ?_)
     refine wl_nil ?_
     refine then_n ?_
     refine wp_cond_false (hF.eval rfl) ?_
     refine wp_region_lit ?_
     refine wl (d_assign rfl) rfl hF (fun ac hF => ?_)
     refine wl_nil ?_
     refine block_n ?_
     refine then_n ?_
     refine wp_region_lit ?_
     refine wl (d_move rfl) rfl hF (fun ac hF => ?_)
     refine wl (d_add rfl rfl (wrap_i64 (by omega) (by omega))) rfl hF (fun ac hF => ?_)
     refine wl (d_assign rfl) rfl hF (fun ac hF => ?_)
     refine wl_nil ?_
     refine then_n ?_
     refine ⟨_, ?_, i + 1, _, _, _, rfl, (by omega), (by first | exact all_yes hal hsel | exact all_no hnsel), hF.sub ⟨rfl, rfl, rfl, rfl, rfl, rfl, trivial⟩, ⟨hC, hok, (by first | exact own_sel1 hsel.1 hsel.2 hown | exact own_sel0 hnsel hown), hdis, trivial⟩⟩
     omega
   ·have hlt := of_decide_eq_false h
    clear h
    have hNi : N = i := by omega
    subst hNi
    refine wp_exit ?_
    refine then_exit ?_
    refine then_exit ?_
    refine block_exit ?_
    refine then_n ?_
    refine wp_seq ?_
    obtain ⟨bk, capk, rfl, hcapk, hbk, lobk, hibk⟩ := own_some hok (by omega)
    have hts : IsTs w (oblk lvl) (atomsT (selH hv l N)) (cellsA (selH hv l N)) := isTs_atoms _
    have hsll := selH_len (hv := hv) (l := l) (i := N)
    refine wp_region_lit ?_
    refine wl (d_move rfl) rfl hF (fun ac hF => ?_)
    refine wl (d_buildS (cells := #[(vI 6), (vI 0), (vS bk 0 N capk)]) Tryd.underlying26 z26 (fun w => pl26 w _ Tryd.underlying26) rfl (by simp [Instr.fill, Value.cells])) rfl hF (fun ac hF => ?_)
    refine wlR (ok_alloc z26) rfl hF ?_
    rintro _ w ac ⟨b5, rfl, hnb_⟩ hF
    have hch_ : Ch [] _ w := hnb_.ch
    have lo_ := hnb_.lo hC.size
    have ne_bk_b5 := hnb_.gt hibk
    have hts_ := hts
    have hnob5_ : b5 ∉ oblk lvl := fun h_ => by have h1_ := (Own.lt hown _ h_).2; have h2_ := hnb_.num; omega
    have hC := hC.trans' hch_ (fun z hz => .inr (absurd hz (by simp)))
    have hown := Own.mv hown hch_ (fun b_ hb_ => by first | (simp; done) | exact hdis b_ hb_ | (intro hm_; simp at hm_; subst hm_; contradiction))
    have hbk := hbk.mv hch_ (by first | assumption | (simp; done) | (simp <;> omega))
    have hibk := hch_.lt hibk
    have hib5 : b5 < w.heap.size := hnb_.lt
    have lob5 : w0.heap.size ≤ b5 := lo_
    have hb5 : w.heap[b5]? = some (.cells #[(vI 0), (vI 0), vN] 26 (0, 0)) := hnb_.blk
    have ne_bk_b5 : bk < b5 := ne_bk_b5
    have hts : IsTs w (b5 :: oblk lvl) (atomsT (selH hv l N)) (cellsA (selH hv l N)) := IsTs.mv hnb_.ch (by simp) (fun x hx => by rcases List.mem_cons.1 hx with rfl | hx; exact .inr (Nat.le_of_eq hnb_.num.symm); exact .inl hx) _ _ hts_
    have hnob5 : b5 ∉ oblk lvl := hnob5_
    refine wl0R (ok_storeA (c' := #[(vI 6), (vI 0), (vS bk 0 N capk)]) sz26 rfl rfl rfl (fun v hv => by simp at hv; rcases hv with rfl | rfl | rfl <;> rfl) hb5 rfl) hF ?_
    rintro w ac hu_ hF
    have hch_ : Ch [b5] _ w := hu_.ch
    have hC := hC.trans' hch_ (fun z hz => .inr ((by simp at hz; subst hz; assumption)))
    have hown := Own.mv hown hch_ (fun b_ hb_ => by first | (simp; done) | exact hdis b_ hb_ | (intro hm_; simp at hm_; subst hm_; contradiction))
    have hbk := hbk.mv hch_ (by first | assumption | (simp; done) | (simp <;> omega))
    have hibk := hch_.lt hibk
    have hts : IsTs w (b5 :: oblk lvl) (atomsT (selH hv l N)) (cellsA (selH hv l N)) := IsTs.mv hch_ (by intro y hy; first | (simp at hy; done) | (simp at hy; subst hy; simp; done) | (simp [hy]; done)) (fun x hx => .inl hx) _ _ hts
    have hib5 := hch_.lt hib5
    have hb5 : w.heap[b5]? = some (.cells #[(vI 6), (vI 0), (vS bk 0 N capk)] 26 (0, 0)) := hu_.blk
    refine wl_nil ?_
    have hsl : SlA w (b5 :: []) lvl (selH hv l N).length (cellsA (selH hv l N)) := sla_own hown (fun b_ hb_ hm_ => by simp at hm_; subst hm_; exact hnob5 hb_)
    have hTh : IsT w (b5 :: []) (hashT N) [(vI 6), (vI 0), (vS bk 0 N capk)] := hash_isT (by simp <;> omega) hibk hbk
    refine then_n ?_
    refine wp_seq ?_
    refine wp_region_lit ?_
    refine wlR (ok_alloc z31) rfl hF ?_
    rintro _ w ac ⟨b6, rfl, hnb_⟩ hF
    have hch_ : Ch [] _ w := hnb_.ch
    have lo_ := hnb_.lo hC.size
    have ne_b5_b6 := hnb_.gt hib5
    have hTh_ := hTh
    have hsl_ := hsl
    have hC := hC.trans' hch_ (fun z hz => .inr (absurd hz (by simp)))
    have hib5 := hch_.lt hib5
    have hb5 := Ch.blk0 hch_ hb5 (by first | assumption | (simp; done) | (simp <;> omega))
    have hib6 : b6 < w.heap.size := hnb_.lt
    have lob6 : w0.heap.size ≤ b6 := lo_
    have hb6 : w.heap[b6]? = some (.cells #[vf, vf] 31 (0, 0)) := hnb_.blk
    have ne_b5_b6 : b5 < b6 := ne_b5_b6
    have hTh : IsT w (b6 :: b5 :: []) (hashT N) [(vI 6), (vI 0), (vS bk 0 N capk)] := IsT.mv hnb_.ch (by simp) (fun x hx => by rcases List.mem_cons.1 hx with rfl | hx; exact .inr (Nat.le_of_eq hnb_.num.symm); exact .inl hx) _ _ hTh_
    have hsl : SlA w (b6 :: b5 :: []) lvl ((selH hv l N).length) (cellsA (selH hv l N)) := SlA.mv hsl_ hnb_.ch (by simp) (fun x hx => by rcases List.mem_cons.1 hx with rfl | hx; exact .inr (Nat.le_of_eq hnb_.num.symm); exact .inl hx)
    refine wl_nil ?_
    refine then_n ?_
    refine wp_seq ?_
    refine wp_seq ?_
    refine wp_region_lit ?_
    refine wl (d_loadC Tryd.underlying31 rfl sz31 rfl ((At.of_blk hb6)) rfl) rfl hF (fun ac hF => ?_)
    refine wl (d_move rfl) rfl hF (fun ac hF => ?_)
    refine wl (d_loadC Tryd.underlying26 rfl sz26 rfl ((At.of_blk hb5)) rfl) rfl hF (fun ac hF => ?_)
    refine wlR (ok_call c19 rfl (Knows_sla_is (W := ⟨false, false⟩) (known := atomsT (selH hv l N)) (t := hashT N) (hash_b1 hN.1 hN.2 hal) _ (hT0 _ _ (hC.below hw0.size (by simp)) hw0) (by simp [atomsT]; omega) (by simp [atomsT]) hsl (isTs_atoms (X := []) _) (IsT.sub (X := (b6 :: b5 :: [])) (X' := []) hTh (by simp)))) rfl hF ?_
    rintro _ w ac ⟨rfl, hg_⟩ hF
    have hch_ : Ch [] _ w := Gr.ch hg_
    have hC := hC.trans' hch_ (fun z hz => .inr (absurd hz (by simp)))
    have hib5 := hch_.lt hib5
    have hb5 := Ch.blk0 hch_ hb5 (by first | assumption | (simp; done) | (simp <;> omega))
    have hsl : SlA w (b6 :: b5 :: []) lvl ((selH hv l N).length) (cellsA (selH hv l N)) := SlA.mv hsl hch_ (by intro y hy; first | (simp at hy; done) | (simp at hy; subst hy; simp; done) | (simp [hy]; done)) (fun x hx => .inl hx)
    have hTh : IsT w (b6 :: b5 :: []) (hashT N) [(vI 6), (vI 0), (vS bk 0 N capk)] := IsT.mv hch_ (by intro y hy; first | (simp at hy; done) | (simp at hy; subst hy; simp; done) | (simp [hy]; done)) (fun x hx => .inl hx) _ _ hTh
    have hib6 := hch_.lt hib6
    have hb6 := Ch.blk0 hch_ hb6 (by first | assumption | (simp; done) | (simp <;> omega))
    refine wl (d_move rfl) rfl hF (fun ac hF => ?_)
    refine wl (d_bool (c := false) (d_neqB Tryd.underlying4 rfl rfl) (by simp)) rfl hF (fun ac hF => ?_)
    refine wl_nil ?_
    refine then_n ?_
    refine wp_cond_false (hF.eval rfl) ?_
    refine wp_skip ?_
    refine then_n ?_
    refine wp_seq ?_
    refine wp_seq ?_
    refine wp_region_lit ?_
    refine wl (d_assign rfl) rfl hF (fun ac hF => ?_)
    refine wl_nil ?_
    refine then_n ?_
    refine wp_block ?_
    refine wp_loop_k (fun fu_ ac w => ∃ (i : Nat), fu_ = N - i ∧ (i ≤ N) ∧ Frm ac 87 [(0, (vI (N : Int))), (1, (Value.slice ad l cap)), (6, lvl), (9, (vp b5)), (10, (vp b6)), (11, (vI (i : Int)))] ∧ (Ch [] w0 w) ∧ (b5 < w.heap.size) ∧ (w0.heap.size ≤ b5) ∧ (w.heap[b5]? = some (.cells #[(vI 6), (vI 0), (vS bk 0 N capk)] 26 (0, 0))) ∧ (bk < b5) ∧ (SlA w (b6 :: b5 :: []) lvl ((selH hv l N).length) (cellsA (selH hv l N))) ∧ (IsT w (b6 :: b5 :: []) (hashT N) [(vI 6), (vI 0), (vS bk 0 N capk)]) ∧ (b6 < w.heap.size) ∧ (w0.heap.size ≤ b6) ∧ (w.heap[b6]? = some (.cells #[vf, vf] 31 (0, 0))) ∧ (b5 < b6) ∧ True) _ ⟨0, rfl, (by omega), hF.sub ⟨rfl, rfl, rfl, rfl, rfl, rfl, trivial⟩, ⟨hC, hib5, lob5, hb5, ne_bk_b5, hsl, hTh, hib6, lob6, hb6, ne_b5_b6, trivial⟩⟩ ?_
    rintro _ ac w ⟨i, rfl, hiN, hF, ⟨hC, hib5, lob5, hb5, ne_bk_b5, hsl, hTh, hib6, lob6, hb6, ne_b5_b6, _⟩⟩
    refine wp_seq ?_
    refine wp_seq ?_
    refine wp_region_lit ?_
    refine wl (d_move rfl) rfl hF (fun ac hF => ?_)
    refine wl (d_move rfl) rfl hF (fun ac hF => ?_)
    refine wl (d_lss rfl rfl) rfl hF (fun ac hF => ?_)
    refine wl_nil ?_
    refine then_n ?_
    refine wp_if hF rfl (fun h => ?_) (fun h => ?_)
    ·have hlt2 := of_decide_eq_true h
     clear h
     refine wp_skip ?_
     refine then_n ?_
     refine wp_seq ?_
     refine wp_block ?_
     refine wp_seq ?_
     by_cases hil : (i : Int) < (l : Int)
     ·have hiln : i < l := by omega
      obtain ⟨hae, hcell⟩ := hadx (by omega)
      obtain ⟨A1_0, hA1_0⟩ : ∃ A : (Nat → Value) → World → Prop, A = fun _ w => (Ch [] w0 w) ∧ (b5 < w.heap.size) ∧ (w0.heap.size ≤ b5) ∧ (w.heap[b5]? = some (.cells #[(vI 6), (vI 0), (vS bk 0 N capk)] 26 (0, 0))) ∧ (bk < b5) ∧ (SlA w (b6 :: b5 :: []) lvl ((selH hv l N).length) (cellsA (selH hv l N))) ∧ (IsT w (b6 :: b5 :: []) (hashT N) [(vI 6), (vI 0), (vS bk 0 N capk)]) ∧ (b6 < w.heap.size) ∧ (w0.heap.size ≤ b6) ∧ (w.heap[b6]? = some (.cells #[vf, vf] 31 (0, 0))) ∧ (b5 < b6) ∧ True := ⟨_, rfl⟩
      obtain ⟨A1_1, hA1_1⟩ : ∃ A : (Nat → Value) → World → Prop, A = fun _ w => (Ch [] w0 w) ∧ (b5 < w.heap.size) ∧ (w0.heap.size ≤ b5) ∧ (w.heap[b5]? = some (.cells #[(vI 6), (vI 0), (vS bk 0 N capk)] 26 (0, 0))) ∧ (bk < b5) ∧ (SlA w (b6 :: b5 :: []) lvl ((selH hv l N).length) (cellsA (selH hv l N))) ∧ (IsT w (b6 :: b5 :: []) (hashT N) [(vI 6), (vI 0), (vS bk 0 N capk)]) ∧ (b6 < w.heap.size) ∧ (w0.heap.size ≤ b6) ∧ (w.heap[b6]? = some (.cells #[vf, vf] 31 (0, 0))) ∧ (b5 < b6) ∧ True := ⟨_, rfl⟩
      obtain ⟨A1_2, hA1_2⟩ : ∃ A : (Nat → Value) → World → Prop, A = fun _ w => (Ch [] w0 w) ∧ (b5 < w.heap.size) ∧ (w0.heap.size ≤ b5) ∧ (w.heap[b5]? = some (.cells #[(vI 6), (vI 0), (vS bk 0 N capk)] 26 (0, 0))) ∧ (bk < b5) ∧ (SlA w (b6 :: b5 :: []) lvl ((selH hv l N).length) (cellsA (selH hv l N))) ∧ (IsT w (b6 :: b5 :: []) (hashT N) [(vI 6), (vI 0), (vS bk 0 N capk)]) ∧ (b6 < w.heap.size) ∧ (w0.heap.size ≤ b6) ∧ (w.heap[b6]? = some (.cells #[vf, vf] 31 (0, 0))) ∧ (b5 < b6) ∧ True := ⟨_, rfl⟩
      obtain ⟨A1_3, hA1_3⟩ : ∃ A : (Nat → Value) → World → Prop, A = fun H1 w => (Ch [] w0 w) ∧ (b5 < w.heap.size) ∧ (w0.heap.size ≤ b5) ∧ (w.heap[b5]? = some (.cells #[(vI 6), (vI 0), (vS bk 0 N capk)] 26 (0, 0))) ∧ (bk < b5) ∧ (SlA w ((blk (H1 8)) :: b6 :: b5 :: []) lvl ((selH hv l N).length) (cellsA (selH hv l N))) ∧ (IsT w ((blk (H1 8)) :: b6 :: b5 :: []) (hashT N) [(vI 6), (vI 0), (vS bk 0 N capk)]) ∧ (b6 < w.heap.size) ∧ (w0.heap.size ≤ b6) ∧ (w.heap[b6]? = some (.cells #[vf, vf] 31 (0, 0))) ∧ (b5 < b6) ∧ ((blk (H1 8)) < w.heap.size) ∧ (w0.heap.size ≤ (blk (H1 8))) ∧ (w.heap[(blk (H1 8))]? = some (.cells #[] 26 (0, 0))) ∧ (b5 < (blk (H1 8))) ∧ (b6 < (blk (H1 8))) ∧ (H1 8 = (vS (blk (H1 8)) 0 0 0)) ∧ True := ⟨_, rfl⟩
      obtain ⟨A1_4, hA1_4⟩ : ∃ A : (Nat → Value) → World → Prop, A = fun H1 w => (Ch [] w0 w) ∧ (b5 < w.heap.size) ∧ (w0.heap.size ≤ b5) ∧ (w.heap[b5]? = some (.cells #[(vI 6), (vI 0), (vS bk 0 N capk)] 26 (0, 0))) ∧ (bk < b5) ∧ (SlA w (b6 :: b5 :: oblk (H1 10)) lvl ((selH hv l N).length) (cellsA (selH hv l N))) ∧ (IsT w (b6 :: b5 :: oblk (H1 10)) (hashT N) [(vI 6), (vI 0), (vS bk 0 N capk)]) ∧ (b6 < w.heap.size) ∧ (w0.heap.size ≤ b6) ∧ (w.heap[b6]? = some (.cells #[vf, vf] 31 (0, 0))) ∧ (b5 < b6) ∧ (w0.heap.size ≤ (blk (H1 8))) ∧ (b5 < (blk (H1 8))) ∧ (b6 < (blk (H1 8))) ∧ (H1 8 = (vS (blk (H1 8)) 0 0 0)) ∧ (Own w w0.heap.size 26 3 (H1 10) (selH hv l N).length (cellsA (selH hv l N))) ∧ (IsTs w (b6 :: b5 :: oblk (H1 10)) (atomsT (selH hv l N)) (cellsA (selH hv l N))) ∧ (b6 ∉ oblk (H1 10)) ∧ (b5 ∉ oblk (H1 10)) ∧ True := ⟨_, rfl⟩
      obtain ⟨A1_5, hA1_5⟩ : ∃ A : (Nat → Value) → World → Prop, A = fun H1 w => (Ch [] w0 w) ∧ (b5 < w.heap.size) ∧ (w0.heap.size ≤ b5) ∧ (w.heap[b5]? = some (.cells #[(vI 6), (vI 0), (vS bk 0 N capk)] 26 (0, 0))) ∧ (bk < b5) ∧ (SlA w (b6 :: b5 :: oblk (H1 13)) lvl ((selH hv l N).length) (cellsA (selH hv l N))) ∧ (IsT w (b6 :: b5 :: oblk (H1 13)) (hashT N) [(vI 6), (vI 0), (vS bk 0 N capk)]) ∧ (b6 < w.heap.size) ∧ (w0.heap.size ≤ b6) ∧ (w.heap[b6]? = some (.cells #[vf, vf] 31 (0, 0))) ∧ (b5 < b6) ∧ (w0.heap.size ≤ (blk (H1 8))) ∧ (b5 < (blk (H1 8))) ∧ (b6 < (blk (H1 8))) ∧ (H1 8 = (vS (blk (H1 8)) 0 0 0)) ∧ (Own w w0.heap.size 26 3 (H1 13) ((selH hv l N).length + 1) ((cellsA (selH hv l N)) ++ [(vI 6), (vI 0), (vS bk 0 N capk)])) ∧ (IsTs w (b6 :: b5 :: oblk (H1 13)) ((atomsT (selH hv l N)) ++ [hashT N]) ((cellsA (selH hv l N)) ++ [(vI 6), (vI 0), (vS bk 0 N capk)])) ∧ (b6 ∉ oblk (H1 13)) ∧ (b5 ∉ oblk (H1 13)) ∧ True := ⟨_, rfl⟩
      obtain ⟨A1_6, hA1_6⟩ : ∃ A : (Nat → Value) → World → Prop, A = fun H1 w => (Ch [] w0 w) ∧ (b5 < w.heap.size) ∧ (w0.heap.size ≤ b5) ∧ (w.heap[b5]? = some (.cells #[(vI 6), (vI 0), (vS bk 0 N capk)] 26 (0, 0))) ∧ (bk < b5) ∧ (SlA w (b6 :: b5 :: oblk (H1 13)) lvl ((selH hv l N).length) (cellsA (selH hv l N))) ∧ (IsT w (b6 :: b5 :: oblk (H1 13)) (hashT N) [(vI 6), (vI 0), (vS bk 0 N capk)]) ∧ (b6 < w.heap.size) ∧ (w0.heap.size ≤ b6) ∧ (w.heap[b6]? = some (.cells #[vf, vf] 31 (0, 0))) ∧ (b5 < b6) ∧ (w0.heap.size ≤ (blk (H1 8))) ∧ (b5 < (blk (H1 8))) ∧ (b6 < (blk (H1 8))) ∧ (H1 8 = (vS (blk (H1 8)) 0 0 0)) ∧ (Own w w0.heap.size 26 3 (H1 13) ((selH hv l N).length + 1) ((cellsA (selH hv l N)) ++ [(vI 6), (vI 0), (vS bk 0 N capk)])) ∧ (IsTs w (b6 :: b5 :: oblk (H1 13)) ((atomsT (selH hv l N)) ++ [hashT N]) ((cellsA (selH hv l N)) ++ [(vI 6), (vI 0), (vS bk 0 N capk)])) ∧ (b6 ∉ oblk (H1 13)) ∧ (b5 ∉ oblk (H1 13)) ∧ True := ⟨_, rfl⟩
      obtain ⟨A1_7, hA1_7⟩ : ∃ A : (Nat → Value) → World → Prop, A = fun H1 w => (Ch [] w0 w) ∧ (b5 < w.heap.size) ∧ (w0.heap.size ≤ b5) ∧ (w.heap[b5]? = some (.cells #[(vI 6), (vI 0), (vS bk 0 N capk)] 26 (0, 0))) ∧ (bk < b5) ∧ (SlA w (b6 :: b5 :: oblk (H1 13)) lvl ((selH hv l N).length) (cellsA (selH hv l N))) ∧ (IsT w (b6 :: b5 :: oblk (H1 13)) (hashT N) [(vI 6), (vI 0), (vS bk 0 N capk)]) ∧ (b6 < w.heap.size) ∧ (w0.heap.size ≤ b6) ∧ (w.heap[b6]? = some (.cells #[vf, vf] 31 (0, 0))) ∧ (b5 < b6) ∧ (w0.heap.size ≤ (blk (H1 8))) ∧ (b5 < (blk (H1 8))) ∧ (b6 < (blk (H1 8))) ∧ (H1 8 = (vS (blk (H1 8)) 0 0 0)) ∧ (Own w w0.heap.size 26 3 (H1 13) ((selH hv l N).length + 1) ((cellsA (selH hv l N)) ++ [(vI 6), (vI 0), (vS bk 0 N capk)])) ∧ (IsTs w (b6 :: b5 :: oblk (H1 13)) ((atomsT (selH hv l N)) ++ [hashT N]) ((cellsA (selH hv l N)) ++ [(vI 6), (vI 0), (vS bk 0 N capk)])) ∧ (b6 ∉ oblk (H1 13)) ∧ (b5 ∉ oblk (H1 13)) ∧ True := ⟨_, rfl⟩
      refine region_hist2 mo (fun p_ H_ w_ => (([A1_0, A1_1, A1_2, A1_3, A1_4, A1_5, A1_6, A1_7] : List ((Nat → Value) → World → Prop)).getD p_ (fun _ _ => True)) H_ w_) [4, 5, 8, 10, 13, 15, 16] [2, 12] (fun j_ v_ w_ => bif Nat.beq j_ 2 then (v_ = (vS (blk v_) 0 1 1) ∧ At w_ (blk v_) 0 [(vI 6), (vI 0), (vS bk 0 N capk)]) else bif Nat.beq j_ 12 then (v_ = (vS (blk v_) 0 1 1) ∧ At w_ (blk v_) 0 [(vI 6), (vI 0), (vS bk 0 N capk)]) else False) Gr 4 ?_ (rows := [hr_ [] [(10, (vp b6))] [0, 1] (Value.agg #[vf, vf]), hr_ [] [(9, (vp b5))] [0, 1] (Value.agg #[(vI 6), (vI 0), (vS bk 0 N capk)]), ⟨[(1, 58)], [], [0, 1], [2], fun H1 => H1 2, fun H1 K_ h_ => by simp only [h_ 2 (by simp)]⟩, hr_ [] [(11, (vI (i : Int)))] [0] (vI (i : Int)), hr_ [(3, 60)] [] [0] (Value.agg #[(vI 1), (vI (i : Int)), vN]), ⟨[(0, 57), (2, 59), (4, 61)], [], [1], [2], fun H1 => vf, fun H1 K_ h_ => by simp only [h_ 2 (by simp)]⟩, hr_ [(5, 62)] [] [2] vf, hr_ [(6, 63)] [(10, (vp b6))] [2, 3, 4, 5, 6] (Value.agg #[vf, vf]), ⟨[(6, 63)], [], [2], [8], fun H1 => H1 8, fun H1 K_ h_ => by simp only [h_ 8 (by simp)]⟩, hr_ [(6, 63)] [(6, lvl)] [2, 3] lvl, ⟨[(8, 65), (9, 66), (6, 63)], [], [3], [10], fun H1 => H1 10, fun H1 K_ h_ => by simp only [h_ 10 (by simp)]⟩, hr_ [(6, 63)] [(9, (vp b5))] [2, 3, 4] (Value.agg #[(vI 6), (vI 0), (vS bk 0 N capk)]), ⟨[(11, 68), (6, 63)], [], [2, 3, 4], [12], fun H1 => H1 12, fun H1 K_ h_ => by simp only [h_ 12 (by simp)]⟩, ⟨[(10, 67), (12, 69), (6, 63)], [], [4], [12, 13], fun H1 => H1 13, fun H1 K_ h_ => by simp only [h_ 12 (by simp), h_ 13 (by simp)]⟩, hr_ [(6, 63)] [(11, (vI (i : Int)))] [2, 3, 4, 5] (vI (i : Int)), hr_ [(14, 71), (6, 63)] [] [5] (Value.agg #[(vI 1), (vI (i : Int)), vN]), hr_ [(7, 64), (13, 70), (15, 72), (6, 63)] [] [6] (vB (hv i)), hr_ [(6, 63)] [(11, (vI (i : Int)))] [2, 3, 4, 5, 6, 7] (vI (i : Int)), hr_ [(6, 63)] [(1, (Value.slice ad l cap))] [2, 3, 4, 5, 6, 7] (Value.slice ad l cap), hr_ [(18, 75), (6, 63)] [] [2, 3, 4, 5, 6, 7] (vI (l : Int)), hr_ [(17, 74), (19, 76), (6, 63)] [] [2, 3, 4, 5, 6, 7] vt, hr_ [(20, 77), (6, 63)] [] [7] vt, hr_ [(21, 78)] [(1, (Value.slice ad l cap))] [7] (Value.slice ad l cap), hr_ [(21, 78)] [(11, (vI (i : Int)))] [7] (vI (i : Int)), hr_ [(22, 79), (23, 80), (21, 78)] [] [7] (vP bh (oh + i)), hr_ [(24, 81), (21, 78)] [] [7] (vB (hv i)), hr_ [(21, 78), (25, 82), (6, 63)] [] [7] (vB (hv i)), hr_ [(16, 73), (26, 83), (6, 63)] [] [7] vf, hr_ [(6, 63), (27, 84)] [] [7] vf]) (by kernel_rfl) hF (fun H_ => ?_) ?_ ?_
      ·intro j_ v_ w_ w2_ h_ hg_
       by_cases e2_ : j_ = 2
       ·subst e2_; obtain ⟨h1_, h2_⟩ := h_; exact ⟨h1_, h2_.mv (Gr.ch hg_) (by simp)⟩
       by_cases e12_ : j_ = 12
       ·subst e12_; obtain ⟨h1_, h2_⟩ := h_; exact ⟨h1_, h2_.mv (Gr.ch hg_) (by simp)⟩
       simp only [beqf e2_, beqf e12_, cond_false] at h_ ⊢
      ·have hch_ := Ch.drew w
       have hfin_ : A1_0 H_ { w with drawn := w.drawn + 1 } := by rw [hA1_0]; exact ⟨hC.trans' hch_ (fun z hz => .inr (absurd hz (by simp))), hch_.lt hib5, lob5, Ch.blk0 hch_ hb5 (by first | assumption | (simp; done) | (simp <;> omega)), ne_bk_b5, SlA.mv hsl hch_ (by intro y hy; first | (simp at hy; done) | (simp at hy; subst hy; simp; done) | (simp [hy]; done)) (fun x hx => .inl hx), IsT.mv hch_ (by intro y hy; first | (simp at hy; done) | (simp at hy; subst hy; simp; done) | (simp [hy]; done)) (fun x hx => .inl hx) _ _ hTh, hch_.lt hib6, lob6, Ch.blk0 hch_ hb6 (by first | assumption | (simp; done) | (simp <;> omega)), ne_b5_b6, trivial⟩
       exact hfin_
      ·refine ⟨?_, ?_, ?_, ?_, ?_, ?_, ?_, ?_, ?_, ?_, ?_, ?_, ?_, ?_, ?_, ?_, ?_, ?_, ?_, ?_, ?_, ?_, ?_, ?_, ?_, ?_, ?_, ?_, ?_, trivial⟩
       ·refine ⟨⟨rfl, trivial⟩, fun ph_ hp_ H1 w hW hfl_ => ?_⟩
        rcases memN_or hp_ with rfl | hp_
        ·have hW0 := hW
         replace hW : A1_0 H1 w := hW
         rw [hA1_0] at hW
         obtain ⟨hC, hib5, lob5, hb5, ne_bk_b5, hsl, hTh, hib6, lob6, hb6, ne_b5_b6, _⟩ := hW
         exact Det.og Gr.refl rfl rfl hW0 (d_loadC Tryd.underlying31 rfl sz31 rfl ((At.of_blk hb6)) rfl)
        obtain rfl := memN_one hp_
        ·have hW0 := hW
         replace hW : A1_1 H1 w := hW
         rw [hA1_1] at hW
         obtain ⟨hC, hib5, lob5, hb5, ne_bk_b5, hsl, hTh, hib6, lob6, hb6, ne_b5_b6, _⟩ := hW
         exact Det.og Gr.refl rfl rfl hW0 (d_loadC Tryd.underlying31 rfl sz31 rfl ((At.of_blk hb6)) rfl)
       ·refine ⟨⟨rfl, trivial⟩, fun ph_ hp_ H1 w hW hfl_ => ?_⟩
        rcases memN_or hp_ with rfl | hp_
        ·have hW0 := hW
         replace hW : A1_0 H1 w := hW
         rw [hA1_0] at hW
         obtain ⟨hC, hib5, lob5, hb5, ne_bk_b5, hsl, hTh, hib6, lob6, hb6, ne_b5_b6, _⟩ := hW
         exact Det.og Gr.refl rfl rfl hW0 (d_loadC Tryd.underlying26 rfl sz26 rfl ((At.of_blk hb5)) rfl)
        obtain rfl := memN_one hp_
        ·have hW0 := hW
         replace hW : A1_1 H1 w := hW
         rw [hA1_1] at hW
         obtain ⟨hC, hib5, lob5, hb5, ne_bk_b5, hsl, hTh, hib6, lob6, hb6, ne_b5_b6, _⟩ := hW
         exact Det.og Gr.refl rfl rfl hW0 (d_loadC Tryd.underlying26 rfl sz26 rfl ((At.of_blk hb5)) rfl)
       ·refine ⟨trivial, fun ph_ hp_ H1 w hW hfl_ => ?_⟩
        rcases memN_or hp_ with rfl | hp_
        ·replace hW : A1_0 H1 w := hW
         rw [hA1_0] at hW
         obtain ⟨hC, hib5, lob5, hb5, ne_bk_b5, hsl, hTh, hib6, lob6, hb6, ne_b5_b6, _⟩ := hW
         refine Ok1.mono (ok_buildSlice (cells := #[(vI 6), (vI 0), (vS bk 0 N capk)]) Tryd.underlying24 zz26 rfl (by decide) (by decide) (by exact fillT1)) ?_
         rintro _ w' ⟨b7, rfl, hnb_⟩
         have hch_ : Ch [] _ w' := hnb_.ch
         have hC := hC.trans' hch_ (fun z hz => .inr (absurd hz (by simp)))
         have hib5 := hch_.lt hib5
         have hb5 := Ch.blk0 hch_ hb5 (by first | assumption | (simp; done) | (simp <;> omega))
         have hsl : SlA w' (b6 :: b5 :: []) lvl ((selH hv l N).length) (cellsA (selH hv l N)) := SlA.mv hsl hch_ (by intro y hy; first | (simp at hy; done) | (simp at hy; subst hy; simp; done) | (simp [hy]; done)) (fun x hx => .inl hx)
         have hTh : IsT w' (b6 :: b5 :: []) (hashT N) [(vI 6), (vI 0), (vS bk 0 N capk)] := IsT.mv hch_ (by intro y hy; first | (simp at hy; done) | (simp at hy; subst hy; simp; done) | (simp [hy]; done)) (fun x hx => .inl hx) _ _ hTh
         have hib6 := hch_.lt hib6
         have hb6 := Ch.blk0 hch_ hb6 (by first | assumption | (simp; done) | (simp <;> omega))
         have hb7 : At w' b7 0 [(vI 6), (vI 0), (vS bk 0 N capk)] := hnb_.at
         have hfin_ : A1_0 (updV H1 2 (vS b7 0 1 1)) w' := by rw [hA1_0]; exact ⟨hC, hib5, lob5, hb5, ne_bk_b5, hsl, hTh, hib6, lob6, hb6, ne_b5_b6, trivial⟩
         exact R2.flo rfl rfl hfin_ rfl (Ch.gr hch_) ⟨rfl, hb7⟩
        obtain rfl := memN_one hp_
        ·replace hW : A1_1 H1 w := hW
         rw [hA1_1] at hW
         obtain ⟨hC, hib5, lob5, hb5, ne_bk_b5, hsl, hTh, hib6, lob6, hb6, ne_b5_b6, _⟩ := hW
         refine Ok1.mono (ok_buildSlice (cells := #[(vI 6), (vI 0), (vS bk 0 N capk)]) Tryd.underlying24 zz26 rfl (by decide) (by decide) (by exact fillT1)) ?_
         rintro _ w' ⟨b7, rfl, hnb_⟩
         have hch_ : Ch [] _ w' := hnb_.ch
         have hC := hC.trans' hch_ (fun z hz => .inr (absurd hz (by simp)))
         have hib5 := hch_.lt hib5
         have hb5 := Ch.blk0 hch_ hb5 (by first | assumption | (simp; done) | (simp <;> omega))
         have hsl : SlA w' (b6 :: b5 :: []) lvl ((selH hv l N).length) (cellsA (selH hv l N)) := SlA.mv hsl hch_ (by intro y hy; first | (simp at hy; done) | (simp at hy; subst hy; simp; done) | (simp [hy]; done)) (fun x hx => .inl hx)
         have hTh : IsT w' (b6 :: b5 :: []) (hashT N) [(vI 6), (vI 0), (vS bk 0 N capk)] := IsT.mv hch_ (by intro y hy; first | (simp at hy; done) | (simp at hy; subst hy; simp; done) | (simp [hy]; done)) (fun x hx => .inl hx) _ _ hTh
         have hib6 := hch_.lt hib6
         have hb6 := Ch.blk0 hch_ hb6 (by first | assumption | (simp; done) | (simp <;> omega))
         have hb7 : At w' b7 0 [(vI 6), (vI 0), (vS bk 0 N capk)] := hnb_.at
         have hfin_ : A1_1 (updV H1 2 (vS b7 0 1 1)) w' := by rw [hA1_1]; exact ⟨hC, hib5, lob5, hb5, ne_bk_b5, hsl, hTh, hib6, lob6, hb6, ne_b5_b6, trivial⟩
         exact R2.flo rfl rfl hfin_ rfl (Ch.gr hch_) ⟨rfl, hb7⟩
       ·exact GOb.pure Gr.refl ⟨rfl, trivial⟩ rfl rfl rfl (fun _ _ => d_move rfl)
       ·refine ⟨trivial, fun ph_ hp_ H1 w hW hfl_ => ?_⟩
        obtain rfl := memN_one hp_
        replace hW : A1_0 H1 w := hW
        rw [hA1_0] at hW
        obtain ⟨hC, hib5, lob5, hb5, ne_bk_b5, hsl, hTh, hib6, lob6, hb6, ne_b5_b6, _⟩ := hW
        refine Ok1.mono (ok_call c16 rfl (atom_calls _)) ?_
        rintro _ w' ⟨rfl, hg_⟩
        have hch_ : Ch [] _ w' := Gr.ch hg_
        have hC := hC.trans' hch_ (fun z hz => .inr (absurd hz (by simp)))
        have hib5 := hch_.lt hib5
        have hb5 := Ch.blk0 hch_ hb5 (by first | assumption | (simp; done) | (simp <;> omega))
        have hsl : SlA w' (b6 :: b5 :: []) lvl ((selH hv l N).length) (cellsA (selH hv l N)) := SlA.mv hsl hch_ (by intro y hy; first | (simp at hy; done) | (simp at hy; subst hy; simp; done) | (simp [hy]; done)) (fun x hx => .inl hx)
        have hTh : IsT w' (b6 :: b5 :: []) (hashT N) [(vI 6), (vI 0), (vS bk 0 N capk)] := IsT.mv hch_ (by intro y hy; first | (simp at hy; done) | (simp at hy; subst hy; simp; done) | (simp [hy]; done)) (fun x hx => .inl hx) _ _ hTh
        have hib6 := hch_.lt hib6
        have hb6 := Ch.blk0 hch_ hb6 (by first | assumption | (simp; done) | (simp <;> omega))
        have hfin_ : A1_1 (updV H1 4 (Value.agg #[(vI 1), (vI (i : Int)), vN])) w' := by rw [hA1_1]; exact ⟨hC, hib5, lob5, hb5, ne_bk_b5, hsl, hTh, hib6, lob6, hb6, ne_b5_b6, trivial⟩
        exact R2.eff rfl hfin_ rfl (fun _ => Ch.gr hch_) rfl
       ·refine ⟨trivial, fun ph_ hp_ H1 w hW hfl_ => ?_⟩
        obtain rfl := memN_one hp_
        replace hW : A1_1 H1 w := hW
        rw [hA1_1] at hW
        obtain ⟨hC, hib5, lob5, hb5, ne_bk_b5, hsl, hTh, hib6, lob6, hb6, ne_b5_b6, _⟩ := hW
        obtain ⟨hv1_2, hb7⟩ := hfl_ (by decide) 2 (by simp) (by decide) rfl
        refine Ok1.sub (L' := [(57, (Value.agg #[vf, vf])), (59, (vS (blk (H1 2)) 0 1 1)), (61, (Value.agg #[(vI 1), (vI (i : Int)), vN]))]) ⟨rfl, congrArg some hv1_2, rfl, trivial⟩ (Ok1.mono (ok_call c19 rfl (Knows_sla_is (W := ⟨false, false⟩) (known := [hashT N]) (t := Tm.mk 1 (i : Int) []) (hash_b2 hN.1 hN.2 (by omega)) _ (hT0 _ _ (hC.below hw0.size (by simp)) hw0) (by simp) rfl (.inr ⟨_, 0, _, rfl, (by simp : _ ∉ []), At.lt hb7, hb7⟩) (IsTs.one (IsT.sub (X := (b6 :: b5 :: [])) (X' := []) hTh (by simp))) (IsT.sub (X := (b6 :: b5 :: [])) (X' := []) (isT_atom _ _ _) (by simp)))) ?_)
        rintro _ w' ⟨rfl, hg_⟩
        have hch_ : Ch [] _ w' := Gr.ch hg_
        have hC := hC.trans' hch_ (fun z hz => .inr (absurd hz (by simp)))
        have hib5 := hch_.lt hib5
        have hb5 := Ch.blk0 hch_ hb5 (by first | assumption | (simp; done) | (simp <;> omega))
        have hsl : SlA w' (b6 :: b5 :: []) lvl ((selH hv l N).length) (cellsA (selH hv l N)) := SlA.mv hsl hch_ (by intro y hy; first | (simp at hy; done) | (simp at hy; subst hy; simp; done) | (simp [hy]; done)) (fun x hx => .inl hx)
        have hTh : IsT w' (b6 :: b5 :: []) (hashT N) [(vI 6), (vI 0), (vS bk 0 N capk)] := IsT.mv hch_ (by intro y hy; first | (simp at hy; done) | (simp at hy; subst hy; simp; done) | (simp [hy]; done)) (fun x hx => .inl hx) _ _ hTh
        have hib6 := hch_.lt hib6
        have hb6 := Ch.blk0 hch_ hb6 (by first | assumption | (simp; done) | (simp <;> omega))
        have hfin_ : A1_2 (updV H1 5 vf) w' := by rw [hA1_2]; exact ⟨hC, hib5, lob5, hb5, ne_bk_b5, hsl, hTh, hib6, lob6, hb6, ne_b5_b6, trivial⟩
        exact R2.eff rfl hfin_ rfl (fun _ => Ch.gr hch_) rfl
       ·exact GOb.pure Gr.refl trivial rfl rfl rfl (fun _ _ => d_move rfl)
       ·refine ⟨⟨rfl, trivial⟩, fun ph_ hp_ H1 w hW hfl_ => ?_⟩
        rcases memN_or hp_ with rfl | hp_
        ·have hW0 := hW
         replace hW : A1_2 H1 w := hW
         rw [hA1_2] at hW
         obtain ⟨hC, hib5, lob5, hb5, ne_bk_b5, hsl, hTh, hib6, lob6, hb6, ne_b5_b6, _⟩ := hW
         exact ⟨(some false), _, rfl, rfl, Det.og Gr.refl rfl rfl hW0 (d_loadC Tryd.underlying31 rfl sz31 rfl ((At.of_blk hb6)) rfl)⟩
        rcases memN_or hp_ with rfl | hp_
        ·have hW0 := hW
         replace hW : A1_3 H1 w := hW
         rw [hA1_3] at hW
         obtain ⟨hC, hib5, lob5, hb5, ne_bk_b5, hsl, hTh, hib6, lob6, hb6, ne_b5_b6, hib8, lob8, hb8, ne_b5_b8, ne_b6_b8, hv1_8, _⟩ := hW
         exact ⟨(some false), _, rfl, rfl, Det.og Gr.refl rfl rfl hW0 (d_loadC Tryd.underlying31 rfl sz31 rfl ((At.of_blk hb6)) rfl)⟩
        rcases memN_or hp_ with rfl | hp_
        ·have hW0 := hW
         replace hW : A1_4 H1 w := hW
         rw [hA1_4] at hW
         obtain ⟨hC, hib5, lob5, hb5, ne_bk_b5, hsl, hTh, hib6, lob6, hb6, ne_b5_b6, lob8, ne_b5_b8, ne_b6_b8, hv1_8, hown, hts, hnob6, hnob5, _⟩ := hW
         exact ⟨(some false), _, rfl, rfl, Det.og Gr.refl rfl rfl hW0 (d_loadC Tryd.underlying31 rfl sz31 rfl ((At.of_blk hb6)) rfl)⟩
        rcases memN_or hp_ with rfl | hp_
        ·have hW0 := hW
         replace hW : A1_5 H1 w := hW
         rw [hA1_5] at hW
         obtain ⟨hC, hib5, lob5, hb5, ne_bk_b5, hsl, hTh, hib6, lob6, hb6, ne_b5_b6, lob8, ne_b5_b8, ne_b6_b8, hv1_8, hown, hts, hnob6, hnob5, _⟩ := hW
         exact ⟨(some false), _, rfl, rfl, Det.og Gr.refl rfl rfl hW0 (d_loadC Tryd.underlying31 rfl sz31 rfl ((At.of_blk hb6)) rfl)⟩
        obtain rfl := memN_one hp_
        ·have hW0 := hW
         replace hW : A1_6 H1 w := hW
         rw [hA1_6] at hW
         obtain ⟨hC, hib5, lob5, hb5, ne_bk_b5, hsl, hTh, hib6, lob6, hb6, ne_b5_b6, lob8, ne_b5_b8, ne_b6_b8, hv1_8, hown, hts, hnob6, hnob5, _⟩ := hW
         exact ⟨(some false), _, rfl, rfl, Det.og Gr.refl rfl rfl hW0 (d_loadC Tryd.underlying31 rfl sz31 rfl ((At.of_blk hb6)) rfl)⟩
       ·refine ⟨trivial, fun ph_ hp_ H1 w hW hfl_ => ?_⟩
        obtain rfl := memN_one hp_
        replace hW : A1_2 H1 w := hW
        rw [hA1_2] at hW
        obtain ⟨hC, hib5, lob5, hb5, ne_bk_b5, hsl, hTh, hib6, lob6, hb6, ne_b5_b6, _⟩ := hW
        refine ⟨(some false), _, rfl, rfl, Ok1.mono (ok_buildSlice0 Tryd.underlying24 sz26) ?_⟩
        rintro _ w' ⟨b8, rfl, hnb_⟩
        have hch_ : Ch [] _ w' := hnb_.ch
        have lo_ := hnb_.lo hC.size
        have ne_b5_b8 := hnb_.gt hib5
        have ne_b6_b8 := hnb_.gt hib6
        have hTh_ := hTh
        have hsl_ := hsl
        have hC := hC.trans' hch_ (fun z hz => .inr (absurd hz (by simp)))
        have hib5 := hch_.lt hib5
        have hb5 := Ch.blk0 hch_ hb5 (by first | assumption | (simp; done) | (simp <;> omega))
        have hib6 := hch_.lt hib6
        have hb6 := Ch.blk0 hch_ hb6 (by first | assumption | (simp; done) | (simp <;> omega))
        have hib8 : b8 < w'.heap.size := hnb_.lt
        have lob8 : w0.heap.size ≤ b8 := lo_
        have hb8 : w'.heap[b8]? = some (.cells #[] 26 (0, 0)) := hnb_.blk
        have ne_b5_b8 : b5 < b8 := ne_b5_b8
        have ne_b6_b8 : b6 < b8 := ne_b6_b8
        have hTh : IsT w' (b8 :: b6 :: b5 :: []) (hashT N) [(vI 6), (vI 0), (vS bk 0 N capk)] := IsT.mv hnb_.ch (by simp) (fun x hx => by rcases List.mem_cons.1 hx with rfl | hx; exact .inr (Nat.le_of_eq hnb_.num.symm); exact .inl hx) _ _ hTh_
        have hsl : SlA w' (b8 :: b6 :: b5 :: []) lvl ((selH hv l N).length) (cellsA (selH hv l N)) := SlA.mv hsl_ hnb_.ch (by simp) (fun x hx => by rcases List.mem_cons.1 hx with rfl | hx; exact .inr (Nat.le_of_eq hnb_.num.symm); exact .inl hx)
        have hfin_ : A1_3 (updV H1 8 (vS b8 0 0 0)) w' := by rw [hA1_3]; exact ⟨hC, hib5, lob5, hb5, ne_bk_b5, hsl, hTh, hib6, lob6, hb6, ne_b5_b6, hib8, lob8, hb8, ne_b5_b8, ne_b6_b8, rfl, trivial⟩
        exact R2.eff rfl hfin_ rfl (fun _ => Ch.gr hch_) rfl
       ·exact GOb.pureG Gr.refl ⟨rfl, trivial⟩ rfl rfl (fun _ => rfl) rfl rfl (fun _ _ => d_move rfl)
       ·refine ⟨trivial, fun ph_ hp_ H1 w hW hfl_ => ?_⟩
        obtain rfl := memN_one hp_
        replace hW : A1_3 H1 w := hW
        rw [hA1_3] at hW
        obtain ⟨hC, hib5, lob5, hb5, ne_bk_b5, hsl, hTh, hib6, lob6, hb6, ne_b5_b6, hib8, lob8, hb8, ne_b5_b8, ne_b6_b8, hv1_8, _⟩ := hW
        refine ⟨(some false), _, rfl, rfl, Ok1.sub (L' := [(63, vf), (65, (vS (blk (H1 8)) 0 0 0)), (66, lvl)]) ⟨rfl, congrArg some hv1_8, rfl, trivial⟩ (Ok1.mono (ok_append00S (m := 3) Tryd.underlying24 ii26 rfl (by decide) rfl rfl hb8 lob8 hsl (cellsA_len _) cells1A (by omega) (by unfold maxLen; omega) hC.size) ?_)⟩
        rintro lv9 w' ⟨hown, hch0_, hob⟩
        have hch_ : Ch [] _ w' := hch0_
        have hob : oblk lv9 = [(blk (H1 8))] ∨ oblk lv9 = [_] := hob
        have hxx_ : ∀ x, x ∈ (b6 :: b5 :: oblk lv9) → x ∈ ((blk (H1 8)) :: b6 :: b5 :: []) ∨ _ ≤ x := fun x hx => by
         simp only [List.mem_cons] at hx ⊢
         rcases hx with h_ | h_ | hx
         ·exact .inl (by simp [h_])
         ·exact .inl (by simp [h_])
         ·rcases hob with hob | hob
          ·rw [hob] at hx; simp at hx; exact .inl (by simp [hx])
          ·rw [hob] at hx; simp at hx; exact .inr (Nat.le_of_eq hx.symm)
        have hnxb6_ := nin_ob (lv := .slice (some ⟨(blk (H1 8)), 0, none⟩) 0 0) hob (by simp [oblk] <;> omega) hib6
        have hnxb5_ := nin_ob (lv := .slice (some ⟨(blk (H1 8)), 0, none⟩) 0 0) hob (by simp [oblk] <;> omega) hib5
        have hC := hC.trans' hch_ (fun z hz => .inr (absurd hz (by simp)))
        have hib5 := hch_.lt hib5
        have hb5 := Ch.blk0 hch_ hb5 (by first | assumption | (simp; done) | (simp <;> omega))
        have hib6 := hch_.lt hib6
        have hb6 := Ch.blk0 hch_ hb6 (by first | assumption | (simp; done) | (simp <;> omega))
        have hown : Own w' w0.heap.size 26 3 lv9 (selH hv l N).length (cellsA (selH hv l N)) := hown
        have hts : IsTs w' (b6 :: b5 :: oblk lv9) (atomsT (selH hv l N)) (cellsA (selH hv l N)) := isTs_atoms _
        have hnob6 : b6 ∉ oblk lv9 := hnxb6_
        have hnob5 : b5 ∉ oblk lv9 := hnxb5_
        have hTh : IsT w' (b6 :: b5 :: oblk lv9) (hashT N) [(vI 6), (vI 0), (vS bk 0 N capk)] := IsT.mv hch_ (by simp) hxx_ _ _ hTh
        have hsl : SlA w' (b6 :: b5 :: oblk lv9) lvl ((selH hv l N).length) (cellsA (selH hv l N)) := SlA.mv hsl hch_ (by simp) hxx_
        have hfin_ : A1_4 (updV H1 10 lv9) w' := by rw [hA1_4]; exact ⟨hC, hib5, lob5, hb5, ne_bk_b5, hsl, hTh, hib6, lob6, hb6, ne_b5_b6, lob8, ne_b5_b8, ne_b6_b8, hv1_8, hown, hts, hnob6, hnob5, trivial⟩
        exact R2.eff rfl hfin_ rfl (fun _ => Ch.gr hch_) rfl
       ·refine ⟨⟨rfl, trivial⟩, fun ph_ hp_ H1 w hW hfl_ => ?_⟩
        rcases memN_or hp_ with rfl | hp_
        ·have hW0 := hW
         replace hW : A1_2 H1 w := hW
         rw [hA1_2] at hW
         obtain ⟨hC, hib5, lob5, hb5, ne_bk_b5, hsl, hTh, hib6, lob6, hb6, ne_b5_b6, _⟩ := hW
         exact ⟨(some false), _, rfl, rfl, Det.og Gr.refl rfl rfl hW0 (d_loadC Tryd.underlying26 rfl sz26 rfl ((At.of_blk hb5)) rfl)⟩
        rcases memN_or hp_ with rfl | hp_
        ·have hW0 := hW
         replace hW : A1_3 H1 w := hW
         rw [hA1_3] at hW
         obtain ⟨hC, hib5, lob5, hb5, ne_bk_b5, hsl, hTh, hib6, lob6, hb6, ne_b5_b6, hib8, lob8, hb8, ne_b5_b8, ne_b6_b8, hv1_8, _⟩ := hW
         exact ⟨(some false), _, rfl, rfl, Det.og Gr.refl rfl rfl hW0 (d_loadC Tryd.underlying26 rfl sz26 rfl ((At.of_blk hb5)) rfl)⟩
        obtain rfl := memN_one hp_
        ·have hW0 := hW
         replace hW : A1_4 H1 w := hW
         rw [hA1_4] at hW
         obtain ⟨hC, hib5, lob5, hb5, ne_bk_b5, hsl, hTh, hib6, lob6, hb6, ne_b5_b6, lob8, ne_b5_b8, ne_b6_b8, hv1_8, hown, hts, hnob6, hnob5, _⟩ := hW
         exact ⟨(some false), _, rfl, rfl, Det.og Gr.refl rfl rfl hW0 (d_loadC Tryd.underlying26 rfl sz26 rfl ((At.of_blk hb5)) rfl)⟩
       ·refine ⟨trivial, fun ph_ hp_ H1 w hW hfl_ => ?_⟩
        rcases memN_or hp_ with rfl | hp_
        ·replace hW : A1_2 H1 w := hW
         rw [hA1_2] at hW
         obtain ⟨hC, hib5, lob5, hb5, ne_bk_b5, hsl, hTh, hib6, lob6, hb6, ne_b5_b6, _⟩ := hW
         refine ⟨(some false), _, rfl, rfl, Ok1.mono (ok_buildSlice (cells := #[(vI 6), (vI 0), (vS bk 0 N capk)]) Tryd.underlying24 zz26 rfl (by decide) (by decide) (by exact fillT1)) ?_⟩
         rintro _ w' ⟨b10, rfl, hnb_⟩
         have hch_ : Ch [] _ w' := hnb_.ch
         have hC := hC.trans' hch_ (fun z hz => .inr (absurd hz (by simp)))
         have hib5 := hch_.lt hib5
         have hb5 := Ch.blk0 hch_ hb5 (by first | assumption | (simp; done) | (simp <;> omega))
         have hsl : SlA w' (b6 :: b5 :: []) lvl ((selH hv l N).length) (cellsA (selH hv l N)) := SlA.mv hsl hch_ (by intro y hy; first | (simp at hy; done) | (simp at hy; subst hy; simp; done) | (simp [hy]; done)) (fun x hx => .inl hx)
         have hTh : IsT w' (b6 :: b5 :: []) (hashT N) [(vI 6), (vI 0), (vS bk 0 N capk)] := IsT.mv hch_ (by intro y hy; first | (simp at hy; done) | (simp at hy; subst hy; simp; done) | (simp [hy]; done)) (fun x hx => .inl hx) _ _ hTh
         have hib6 := hch_.lt hib6
         have hb6 := Ch.blk0 hch_ hb6 (by first | assumption | (simp; done) | (simp <;> omega))
         have hb10 : At w' b10 0 [(vI 6), (vI 0), (vS bk 0 N capk)] := hnb_.at
         have hfin_ : A1_2 (updV H1 12 (vS b10 0 1 1)) w' := by rw [hA1_2]; exact ⟨hC, hib5, lob5, hb5, ne_bk_b5, hsl, hTh, hib6, lob6, hb6, ne_b5_b6, trivial⟩
         exact R2.flo rfl rfl hfin_ rfl (Ch.gr hch_) ⟨rfl, hb10⟩
        rcases memN_or hp_ with rfl | hp_
        ·replace hW : A1_3 H1 w := hW
         rw [hA1_3] at hW
         obtain ⟨hC, hib5, lob5, hb5, ne_bk_b5, hsl, hTh, hib6, lob6, hb6, ne_b5_b6, hib8, lob8, hb8, ne_b5_b8, ne_b6_b8, hv1_8, _⟩ := hW
         refine ⟨(some false), _, rfl, rfl, Ok1.mono (ok_buildSlice (cells := #[(vI 6), (vI 0), (vS bk 0 N capk)]) Tryd.underlying24 zz26 rfl (by decide) (by decide) (by exact fillT1)) ?_⟩
         rintro _ w' ⟨b10, rfl, hnb_⟩
         have hch_ : Ch [] _ w' := hnb_.ch
         have hC := hC.trans' hch_ (fun z hz => .inr (absurd hz (by simp)))
         have hib5 := hch_.lt hib5
         have hb5 := Ch.blk0 hch_ hb5 (by first | assumption | (simp; done) | (simp <;> omega))
         have hsl : SlA w' ((blk (H1 8)) :: b6 :: b5 :: []) lvl ((selH hv l N).length) (cellsA (selH hv l N)) := SlA.mv hsl hch_ (by intro y hy; first | (simp at hy; done) | (simp at hy; subst hy; simp; done) | (simp [hy]; done)) (fun x hx => .inl hx)
         have hTh : IsT w' ((blk (H1 8)) :: b6 :: b5 :: []) (hashT N) [(vI 6), (vI 0), (vS bk 0 N capk)] := IsT.mv hch_ (by intro y hy; first | (simp at hy; done) | (simp at hy; subst hy; simp; done) | (simp [hy]; done)) (fun x hx => .inl hx) _ _ hTh
         have hib6 := hch_.lt hib6
         have hb6 := Ch.blk0 hch_ hb6 (by first | assumption | (simp; done) | (simp <;> omega))
         have hib8 := hch_.lt hib8
         have hb8 := Ch.blk0 hch_ hb8 (by first | assumption | (simp; done) | (simp <;> omega))
         have hb10 : At w' b10 0 [(vI 6), (vI 0), (vS bk 0 N capk)] := hnb_.at
         have hfin_ : A1_3 (updV H1 12 (vS b10 0 1 1)) w' := by rw [hA1_3]; exact ⟨hC, hib5, lob5, hb5, ne_bk_b5, hsl, hTh, hib6, lob6, hb6, ne_b5_b6, hib8, lob8, hb8, ne_b5_b8, ne_b6_b8, hv1_8, trivial⟩
         exact R2.flo rfl rfl hfin_ rfl (Ch.gr hch_) ⟨rfl, hb10⟩
        obtain rfl := memN_one hp_
        ·replace hW : A1_4 H1 w := hW
         rw [hA1_4] at hW
         obtain ⟨hC, hib5, lob5, hb5, ne_bk_b5, hsl, hTh, hib6, lob6, hb6, ne_b5_b6, lob8, ne_b5_b8, ne_b6_b8, hv1_8, hown, hts, hnob6, hnob5, _⟩ := hW
         refine ⟨(some false), _, rfl, rfl, Ok1.mono (ok_buildSlice (cells := #[(vI 6), (vI 0), (vS bk 0 N capk)]) Tryd.underlying24 zz26 rfl (by decide) (by decide) (by exact fillT1)) ?_⟩
         rintro _ w' ⟨b10, rfl, hnb_⟩
         have hch_ : Ch [] _ w' := hnb_.ch
         have hC := hC.trans' hch_ (fun z hz => .inr (absurd hz (by simp)))
         have hib5 := hch_.lt hib5
         have hb5 := Ch.blk0 hch_ hb5 (by first | assumption | (simp; done) | (simp <;> omega))
         have hsl : SlA w' (b6 :: b5 :: oblk (H1 10)) lvl ((selH hv l N).length) (cellsA (selH hv l N)) := SlA.mv hsl hch_ (by intro y hy; first | (simp at hy; done) | (simp at hy; subst hy; simp; done) | (simp [hy]; done)) (fun x hx => .inl hx)
         have hTh : IsT w' (b6 :: b5 :: oblk (H1 10)) (hashT N) [(vI 6), (vI 0), (vS bk 0 N capk)] := IsT.mv hch_ (by intro y hy; first | (simp at hy; done) | (simp at hy; subst hy; simp; done) | (simp [hy]; done)) (fun x hx => .inl hx) _ _ hTh
         have hib6 := hch_.lt hib6
         have hb6 := Ch.blk0 hch_ hb6 (by first | assumption | (simp; done) | (simp <;> omega))
         have hown := Own.mv hown hch_ (fun b_ hb_ => by first | (simp; done) | (intro hm_; simp at hm_; subst hm_; contradiction))
         have hts : IsTs w' (b6 :: b5 :: oblk (H1 10)) (atomsT (selH hv l N)) (cellsA (selH hv l N)) := IsTs.mv hch_ (by intro y hy; first | (simp at hy; done) | (simp at hy; subst hy; simp; done) | (simp [hy]; done)) (fun x hx => .inl hx) _ _ hts
         have hb10 : At w' b10 0 [(vI 6), (vI 0), (vS bk 0 N capk)] := hnb_.at
         have hfin_ : A1_4 (updV H1 12 (vS b10 0 1 1)) w' := by rw [hA1_4]; exact ⟨hC, hib5, lob5, hb5, ne_bk_b5, hsl, hTh, hib6, lob6, hb6, ne_b5_b6, lob8, ne_b5_b8, ne_b6_b8, hv1_8, hown, hts, hnob6, hnob5, trivial⟩
         exact R2.flo rfl rfl hfin_ rfl (Ch.gr hch_) ⟨rfl, hb10⟩
       ·refine ⟨trivial, fun ph_ hp_ H1 w hW hfl_ => ?_⟩
        obtain rfl := memN_one hp_
        replace hW : A1_4 H1 w := hW
        rw [hA1_4] at hW
        obtain ⟨hC, hib5, lob5, hb5, ne_bk_b5, hsl, hTh, hib6, lob6, hb6, ne_b5_b6, lob8, ne_b5_b8, ne_b6_b8, hv1_8, hown, hts, hnob6, hnob5, _⟩ := hW
        obtain ⟨hv1_12, hb10⟩ := hfl_ (by decide) 12 (by simp) (by decide) rfl
        have hown0_ := hown
        refine ⟨(some false), _, rfl, rfl, Ok1.sub (L' := [(63, vf), (67, (H1 10)), (69, (vS (blk (H1 12)) 0 1 1))]) ⟨rfl, rfl, congrArg some hv1_12, trivial⟩ (Ok1.mono (ok_appendm (m := 3) (k := 1) (b := (blk (H1 12))) (o := 0) (news := [(vI 6), (vI 0), (vS bk 0 N capk)]) Tryd.underlying24 ii26 rfl (by decide) rfl rfl hown rfl hb10 (IsT.cells1 hTh) (by omega) (by unfold maxLen; omega) hC.size) ?_)⟩
        rintro lv11 w' ⟨hown, hch0_, hob⟩
        have hch_ : Ch (oblk (H1 10)) _ w' := hch0_
        have hxx_ : ∀ x, x ∈ (b6 :: b5 :: oblk lv11) → x ∈ (b6 :: b5 :: oblk (H1 10)) ∨ _ ≤ x := fun x hx => by
         simp only [List.mem_cons] at hx ⊢
         rcases hx with h_ | h_ | hx
         ·exact .inl (by simp [h_])
         ·exact .inl (by simp [h_])
         ·rcases hob with hob | hob
          ·rw [hob] at hx; exact .inl (by simp [hx])
          ·rw [hob] at hx; simp at hx; exact .inr (Nat.le_of_eq hx.symm)
        have hnxb6_ := nin_ob hob hnob6 hib6
        have hnxb5_ := nin_ob hob hnob5 hib5
        have hC := hC.trans' hch_ (fun z hz => .inr ((Own.lt hown0_ z hz).1))
        have hib5 := hch_.lt hib5
        have hb5 := Ch.blk0 hch_ hb5 (by first | assumption | (simp; done) | (simp <;> omega))
        have hib6 := hch_.lt hib6
        have hb6 := Ch.blk0 hch_ hb6 (by first | assumption | (simp; done) | (simp <;> omega))
        have hts : IsTs w' (b6 :: b5 :: oblk lv11) ((atomsT (selH hv l N)) ++ [hashT N]) ((cellsA (selH hv l N)) ++ [(vI 6), (vI 0), (vS bk 0 N capk)]) := (IsTs.mv hch_ (fun y hy => by simp [hy]) hxx_ _ _ hts).app (IsTs.one (IsT.mv hch_ (fun y hy => by simp [hy]) hxx_ _ _ hTh))
        have hTh : IsT w' (b6 :: b5 :: oblk lv11) (hashT N) [(vI 6), (vI 0), (vS bk 0 N capk)] := IsT.mv hch_ (fun y hy => by simp [hy]) hxx_ _ _ hTh
        have hnob6 : b6 ∉ oblk lv11 := hnxb6_
        have hnob5 : b5 ∉ oblk lv11 := hnxb5_
        have hsl : SlA w' (b6 :: b5 :: oblk lv11) lvl ((selH hv l N).length) (cellsA (selH hv l N)) := SlA.mv hsl hch_ (fun y hy => by simp [hy]) hxx_
        have hfin_ : A1_5 (updV H1 13 lv11) w' := by rw [hA1_5]; exact ⟨hC, hib5, lob5, hb5, ne_bk_b5, hsl, hTh, hib6, lob6, hb6, ne_b5_b6, lob8, ne_b5_b8, ne_b6_b8, hv1_8, hown, hts, hnob6, hnob5, trivial⟩
        exact R2.eff rfl hfin_ rfl (fun h_ => absurd h_ (by decide)) rfl
       ·exact GOb.pureG Gr.refl ⟨rfl, trivial⟩ rfl rfl (fun _ => rfl) rfl rfl (fun _ _ => d_move rfl)
       ·refine ⟨trivial, fun ph_ hp_ H1 w hW hfl_ => ?_⟩
        obtain rfl := memN_one hp_
        replace hW : A1_5 H1 w := hW
        rw [hA1_5] at hW
        obtain ⟨hC, hib5, lob5, hb5, ne_bk_b5, hsl, hTh, hib6, lob6, hb6, ne_b5_b6, lob8, ne_b5_b8, ne_b6_b8, hv1_8, hown, hts, hnob6, hnob5, _⟩ := hW
        refine ⟨(some false), _, rfl, rfl, Ok1.mono (ok_call c16 rfl (atom_calls _)) ?_⟩
        rintro _ w' ⟨rfl, hg_⟩
        have hch_ : Ch [] _ w' := Gr.ch hg_
        have hC := hC.trans' hch_ (fun z hz => .inr (absurd hz (by simp)))
        have hib5 := hch_.lt hib5
        have hb5 := Ch.blk0 hch_ hb5 (by first | assumption | (simp; done) | (simp <;> omega))
        have hsl : SlA w' (b6 :: b5 :: oblk (H1 13)) lvl ((selH hv l N).length) (cellsA (selH hv l N)) := SlA.mv hsl hch_ (by intro y hy; first | (simp at hy; done) | (simp at hy; subst hy; simp; done) | (simp [hy]; done)) (fun x hx => .inl hx)
        have hTh : IsT w' (b6 :: b5 :: oblk (H1 13)) (hashT N) [(vI 6), (vI 0), (vS bk 0 N capk)] := IsT.mv hch_ (by intro y hy; first | (simp at hy; done) | (simp at hy; subst hy; simp; done) | (simp [hy]; done)) (fun x hx => .inl hx) _ _ hTh
        have hib6 := hch_.lt hib6
        have hb6 := Ch.blk0 hch_ hb6 (by first | assumption | (simp; done) | (simp <;> omega))
        have hown := Own.mv hown hch_ (fun b_ hb_ => by first | (simp; done) | (intro hm_; simp at hm_; subst hm_; contradiction))
        have hts : IsTs w' (b6 :: b5 :: oblk (H1 13)) ((atomsT (selH hv l N)) ++ [hashT N]) ((cellsA (selH hv l N)) ++ [(vI 6), (vI 0), (vS bk 0 N capk)]) := IsTs.mv hch_ (by intro y hy; first | (simp at hy; done) | (simp at hy; subst hy; simp; done) | (simp [hy]; done)) (fun x hx => .inl hx) _ _ hts
        have hfin_ : A1_6 (updV H1 15 (Value.agg #[(vI 1), (vI (i : Int)), vN])) w' := by rw [hA1_6]; exact ⟨hC, hib5, lob5, hb5, ne_bk_b5, hsl, hTh, hib6, lob6, hb6, ne_b5_b6, lob8, ne_b5_b8, ne_b6_b8, hv1_8, hown, hts, hnob6, hnob5, trivial⟩
        exact R2.eff rfl hfin_ rfl (fun h_ => absurd h_ (by decide)) rfl
       ·refine ⟨trivial, fun ph_ hp_ H1 w hW hfl_ => ?_⟩
        obtain rfl := memN_one hp_
        replace hW : A1_6 H1 w := hW
        rw [hA1_6] at hW
        obtain ⟨hC, hib5, lob5, hb5, ne_bk_b5, hsl, hTh, hib6, lob6, hb6, ne_b5_b6, lob8, ne_b5_b8, ne_b6_b8, hv1_8, hown, hts, hnob6, hnob5, _⟩ := hW
        refine ⟨(some false), _, rfl, rfl, Ok1.mono (ok_call c19 rfl (Knows_own_is (W := ⟨false, false⟩) (known := (atomsT (selH hv l N)) ++ [hashT N]) (t := Tm.mk 1 (i : Int) []) (hash_b3 hN.1 hN.2 (by omega) (is_lt_bool hiln)) _ (hT0 _ _ (hC.below hw0.size (by simp)) hw0) (by simp [atomsT]; omega) (by simpa [atomsT] using hown) hts (IsT.sub (X := (b6 :: b5 :: oblk (H1 13))) (X' := []) (isT_atom _ _ _) (by simp)))) ?_⟩
        rintro _ w' ⟨rfl, hg_⟩
        have hch_ : Ch [] _ w' := Gr.ch hg_
        have hC := hC.trans' hch_ (fun z hz => .inr (absurd hz (by simp)))
        have hib5 := hch_.lt hib5
        have hb5 := Ch.blk0 hch_ hb5 (by first | assumption | (simp; done) | (simp <;> omega))
        have hsl : SlA w' (b6 :: b5 :: oblk (H1 13)) lvl ((selH hv l N).length) (cellsA (selH hv l N)) := SlA.mv hsl hch_ (by intro y hy; first | (simp at hy; done) | (simp at hy; subst hy; simp; done) | (simp [hy]; done)) (fun x hx => .inl hx)
        have hTh : IsT w' (b6 :: b5 :: oblk (H1 13)) (hashT N) [(vI 6), (vI 0), (vS bk 0 N capk)] := IsT.mv hch_ (by intro y hy; first | (simp at hy; done) | (simp at hy; subst hy; simp; done) | (simp [hy]; done)) (fun x hx => .inl hx) _ _ hTh
        have hib6 := hch_.lt hib6
        have hb6 := Ch.blk0 hch_ hb6 (by first | assumption | (simp; done) | (simp <;> omega))
        have hown := Own.mv hown hch_ (fun b_ hb_ => by first | (simp; done) | (intro hm_; simp at hm_; subst hm_; contradiction))
        have hts : IsTs w' (b6 :: b5 :: oblk (H1 13)) ((atomsT (selH hv l N)) ++ [hashT N]) ((cellsA (selH hv l N)) ++ [(vI 6), (vI 0), (vS bk 0 N capk)]) := IsTs.mv hch_ (by intro y hy; first | (simp at hy; done) | (simp at hy; subst hy; simp; done) | (simp [hy]; done)) (fun x hx => .inl hx) _ _ hts
        have hfin_ : A1_7 (updV H1 16 (vB (hv i))) w' := by rw [hA1_7]; exact ⟨hC, hib5, lob5, hb5, ne_bk_b5, hsl, hTh, hib6, lob6, hb6, ne_b5_b6, lob8, ne_b5_b8, ne_b6_b8, hv1_8, hown, hts, hnob6, hnob5, trivial⟩
        exact R2.eff rfl hfin_ rfl (fun h_ => absurd h_ (by decide)) rfl
       ·exact GOb.pureG Gr.refl ⟨rfl, trivial⟩ rfl rfl (fun _ => rfl) rfl rfl (fun _ _ => d_move rfl)
       ·exact GOb.pureG Gr.refl ⟨rfl, trivial⟩ rfl rfl (fun _ => rfl) rfl rfl (fun _ _ => d_move rfl)
       ·exact GOb.pureG Gr.refl trivial rfl rfl (fun _ => rfl) rfl rfl (fun _ _ => d_len_slice Tryd.underlying36 rfl)
       ·exact GOb.pureG Gr.refl trivial rfl rfl (fun _ => rfl) rfl rfl (fun _ _ => d_bool (c := true) (d_lss rfl rfl) (decide_eq_true hil))
       ·exact GOb.pureG Gr.refl trivial rfl rfl (fun _ => rfl) rfl rfl (fun _ _ => d_move rfl)
       ·exact GOb.pureG Gr.refl ⟨rfl, trivial⟩ rfl rfl (fun _ => rfl) rfl rfl (fun _ _ => d_move rfl)
       ·exact GOb.pureG Gr.refl ⟨rfl, trivial⟩ rfl rfl (fun _ => rfl) rfl rfl (fun _ _ => d_move rfl)
       ·refine ⟨trivial, fun ph_ hp_ H1 w hW hfl_ => ?_⟩
        obtain rfl := memN_one hp_
        have hW0 := hW
        replace hW : A1_7 H1 w := hW
        rw [hA1_7] at hW
        obtain ⟨hC, hib5, lob5, hb5, ne_bk_b5, hsl, hTh, hib6, lob6, hb6, ne_b5_b6, lob8, ne_b5_b8, ne_b6_b8, hv1_8, hown, hts, hnob6, hnob5, _⟩ := hW
        exact ⟨(some true), _, rfl, rfl, Det.og Gr.refl rfl rfl hW0 (d_ixSQ (b := bh) (o := oh) (j := i) (q := oh + i) Tryd.underlying36 sz4 (by rw [← hae]; rfl) rfl rfl (by omega) rfl)⟩
       ·refine ⟨trivial, fun ph_ hp_ H1 w hW hfl_ => ?_⟩
        obtain rfl := memN_one hp_
        have hW0 := hW
        replace hW : A1_7 H1 w := hW
        rw [hA1_7] at hW
        obtain ⟨hC, hib5, lob5, hb5, ne_bk_b5, hsl, hTh, hib6, lob6, hb6, ne_b5_b6, lob8, ne_b5_b8, ne_b6_b8, hv1_8, hown, hts, hnob6, hnob5, _⟩ := hW
        exact ⟨(some true), _, rfl, rfl, Det.og Gr.refl rfl rfl hW0 (d_load1 Tryd.underlying4 rfl rfl (old_cell (hC.drop (by simp)) (hcell i (by omega))))⟩
       ·exact GOb.pureG Gr.refl trivial rfl rfl (fun _ => rfl) rfl rfl (fun _ _ => d_pick (b := true) rfl rfl)
       ·exact GOb.pureG Gr.refl trivial rfl rfl (fun _ => rfl) rfl rfl (fun _ _ => d_bool (c := false) (d_neqB Tryd.underlying4 rfl rfl) (by simp))
       ·exact GOb.pure Gr.refl trivial rfl rfl rfl (fun _ _ => d_pick (b := false) rfl rfl)
      ·intro ac w H1 hW hF
       replace hW : A1_7 H1 w := hW
       rw [hA1_7] at hW
       obtain ⟨hC, hib5, lob5, hb5, ne_bk_b5, hsl, hTh, hib6, lob6, hb6, ne_b5_b6, lob8, ne_b5_b8, ne_b6_b8, hv1_8, hown, hts, hnob6, hnob5, _⟩ := hW
       clear hA1_0 A1_0 hA1_1 A1_1 hA1_2 A1_2 hA1_3 A1_3 hA1_4 A1_4 hA1_5 A1_5 hA1_6 A1_6 hA1_7 A1_7
       have hF := hF.sub (L' := [(0, (vI (N : Int))), (1, (Value.slice ad l cap)), (6, lvl), (9, (vp b5)), (10, (vp b6)), (11, (vI (i : Int))), (54, (vB (decide ((i : Int) < (N : Int))))), (85, vf)]) ⟨rfl, rfl, rfl, rfl, rfl, rfl, rfl, rfl, trivial⟩
       refine then_n ?_
       refine wp_cond_false (hF.eval rfl) ?_
       refine wp_skip ?_
       refine block_n ?_
       refine then_n ?_
       refine wp_region_lit ?_
       refine wl (d_move rfl) rfl hF (fun ac hF => ?_)
       refine wl (d_add rfl rfl (wrap_i64 (by omega) (by omega))) rfl hF (fun ac hF => ?_)
       refine wl (d_assign rfl) rfl hF (fun ac hF => ?_)
       refine wl_nil ?_
       refine then_n ?_
       refine ⟨_, ?_, i + 1, rfl, (by omega), hF.sub ⟨rfl, rfl, rfl, rfl, rfl, rfl, trivial⟩, ⟨hC, hib5, lob5, hb5, ne_bk_b5, (SlA.sub hsl (by intro x hx; simp only [List.mem_cons, List.not_mem_nil, or_false] at hx ⊢; rcases hx with h_ | h_ <;> simp [h_])), (IsT.sub hTh (by intro x hx; simp only [List.mem_cons, List.not_mem_nil, or_false] at hx ⊢; rcases hx with h_ | h_ <;> simp [h_])), hib6, lob6, hb6, ne_b5_b6, trivial⟩⟩
       omega
     ·have hiln : ¬ i < l := by omega
      obtain ⟨A2_0, hA2_0⟩ : ∃ A : (Nat → Value) → World → Prop, A = fun _ w => (Ch [] w0 w) ∧ (b5 < w.heap.size) ∧ (w0.heap.size ≤ b5) ∧ (w.heap[b5]? = some (.cells #[(vI 6), (vI 0), (vS bk 0 N capk)] 26 (0, 0))) ∧ (bk < b5) ∧ (SlA w (b6 :: b5 :: []) lvl ((selH hv l N).length) (cellsA (selH hv l N))) ∧ (IsT w (b6 :: b5 :: []) (hashT N) [(vI 6), (vI 0), (vS bk 0 N capk)]) ∧ (b6 < w.heap.size) ∧ (w0.heap.size ≤ b6) ∧ (w.heap[b6]? = some (.cells #[vf, vf] 31 (0, 0))) ∧ (b5 < b6) ∧ True := ⟨_, rfl⟩
      obtain ⟨A2_1, hA2_1⟩ : ∃ A : (Nat → Value) → World → Prop, A = fun _ w => (Ch [] w0 w) ∧ (b5 < w.heap.size) ∧ (w0.heap.size ≤ b5) ∧ (w.heap[b5]? = some (.cells #[(vI 6), (vI 0), (vS bk 0 N capk)] 26 (0, 0))) ∧ (bk < b5) ∧ (SlA w (b6 :: b5 :: []) lvl ((selH hv l N).length) (cellsA (selH hv l N))) ∧ (IsT w (b6 :: b5 :: []) (hashT N) [(vI 6), (vI 0), (vS bk 0 N capk)]) ∧ (b6 < w.heap.size) ∧ (w0.heap.size ≤ b6) ∧ (w.heap[b6]? = some (.cells #[vf, vf] 31 (0, 0))) ∧ (b5 < b6) ∧ True := ⟨_, rfl⟩
      obtain ⟨A2_2, hA2_2⟩ : ∃ A : (Nat → Value) → World → Prop, A = fun _ w => (Ch [] w0 w) ∧ (b5 < w.heap.size) ∧ (w0.heap.size ≤ b5) ∧ (w.heap[b5]? = some (.cells #[(vI 6), (vI 0), (vS bk 0 N capk)] 26 (0, 0))) ∧ (bk < b5) ∧ (SlA w (b6 :: b5 :: []) lvl ((selH hv l N).length) (cellsA (selH hv l N))) ∧ (IsT w (b6 :: b5 :: []) (hashT N) [(vI 6), (vI 0), (vS bk 0 N capk)]) ∧ (b6 < w.heap.size) ∧ (w0.heap.size ≤ b6) ∧ (w.heap[b6]? = some (.cells #[vf, vf] 31 (0, 0))) ∧ (b5 < b6) ∧ True := ⟨_, rfl⟩
      obtain ⟨A2_3, hA2_3⟩ : ∃ A : (Nat → Value) → World → Prop, A = fun H2 w => (Ch [] w0 w) ∧ (b5 < w.heap.size) ∧ (w0.heap.size ≤ b5) ∧ (w.heap[b5]? = some (.cells #[(vI 6), (vI 0), (vS bk 0 N capk)] 26 (0, 0))) ∧ (bk < b5) ∧ (SlA w ((blk (H2 8)) :: b6 :: b5 :: []) lvl ((selH hv l N).length) (cellsA (selH hv l N))) ∧ (IsT w ((blk (H2 8)) :: b6 :: b5 :: []) (hashT N) [(vI 6), (vI 0), (vS bk 0 N capk)]) ∧ (b6 < w.heap.size) ∧ (w0.heap.size ≤ b6) ∧ (w.heap[b6]? = some (.cells #[vf, vf] 31 (0, 0))) ∧ (b5 < b6) ∧ ((blk (H2 8)) < w.heap.size) ∧ (w0.heap.size ≤ (blk (H2 8))) ∧ (w.heap[(blk (H2 8))]? = some (.cells #[] 26 (0, 0))) ∧ (b5 < (blk (H2 8))) ∧ (b6 < (blk (H2 8))) ∧ (H2 8 = (vS (blk (H2 8)) 0 0 0)) ∧ True := ⟨_, rfl⟩
      obtain ⟨A2_4, hA2_4⟩ : ∃ A : (Nat → Value) → World → Prop, A = fun H2 w => (Ch [] w0 w) ∧ (b5 < w.heap.size) ∧ (w0.heap.size ≤ b5) ∧ (w.heap[b5]? = some (.cells #[(vI 6), (vI 0), (vS bk 0 N capk)] 26 (0, 0))) ∧ (bk < b5) ∧ (SlA w (b6 :: b5 :: oblk (H2 10)) lvl ((selH hv l N).length) (cellsA (selH hv l N))) ∧ (IsT w (b6 :: b5 :: oblk (H2 10)) (hashT N) [(vI 6), (vI 0), (vS bk 0 N capk)]) ∧ (b6 < w.heap.size) ∧ (w0.heap.size ≤ b6) ∧ (w.heap[b6]? = some (.cells #[vf, vf] 31 (0, 0))) ∧ (b5 < b6) ∧ (w0.heap.size ≤ (blk (H2 8))) ∧ (b5 < (blk (H2 8))) ∧ (b6 < (blk (H2 8))) ∧ (H2 8 = (vS (blk (H2 8)) 0 0 0)) ∧ (Own w w0.heap.size 26 3 (H2 10) (selH hv l N).length (cellsA (selH hv l N))) ∧ (IsTs w (b6 :: b5 :: oblk (H2 10)) (atomsT (selH hv l N)) (cellsA (selH hv l N))) ∧ (b6 ∉ oblk (H2 10)) ∧ (b5 ∉ oblk (H2 10)) ∧ True := ⟨_, rfl⟩
      obtain ⟨A2_5, hA2_5⟩ : ∃ A : (Nat → Value) → World → Prop, A = fun H2 w => (Ch [] w0 w) ∧ (b5 < w.heap.size) ∧ (w0.heap.size ≤ b5) ∧ (w.heap[b5]? = some (.cells #[(vI 6), (vI 0), (vS bk 0 N capk)] 26 (0, 0))) ∧ (bk < b5) ∧ (SlA w (b6 :: b5 :: oblk (H2 13)) lvl ((selH hv l N).length) (cellsA (selH hv l N))) ∧ (IsT w (b6 :: b5 :: oblk (H2 13)) (hashT N) [(vI 6), (vI 0), (vS bk 0 N capk)]) ∧ (b6 < w.heap.size) ∧ (w0.heap.size ≤ b6) ∧ (w.heap[b6]? = some (.cells #[vf, vf] 31 (0, 0))) ∧ (b5 < b6) ∧ (w0.heap.size ≤ (blk (H2 8))) ∧ (b5 < (blk (H2 8))) ∧ (b6 < (blk (H2 8))) ∧ (H2 8 = (vS (blk (H2 8)) 0 0 0)) ∧ (Own w w0.heap.size 26 3 (H2 13) ((selH hv l N).length + 1) ((cellsA (selH hv l N)) ++ [(vI 6), (vI 0), (vS bk 0 N capk)])) ∧ (IsTs w (b6 :: b5 :: oblk (H2 13)) ((atomsT (selH hv l N)) ++ [hashT N]) ((cellsA (selH hv l N)) ++ [(vI 6), (vI 0), (vS bk 0 N capk)])) ∧ (b6 ∉ oblk (H2 13)) ∧ (b5 ∉ oblk (H2 13)) ∧ True := ⟨_, rfl⟩
      obtain ⟨A2_6, hA2_6⟩ : ∃ A : (Nat → Value) → World → Prop, A = fun H2 w => (Ch [] w0 w) ∧ (b5 < w.heap.size) ∧ (w0.heap.size ≤ b5) ∧ (w.heap[b5]? = some (.cells #[(vI 6), (vI 0), (vS bk 0 N capk)] 26 (0, 0))) ∧ (bk < b5) ∧ (SlA w (b6 :: b5 :: oblk (H2 13)) lvl ((selH hv l N).length) (cellsA (selH hv l N))) ∧ (IsT w (b6 :: b5 :: oblk (H2 13)) (hashT N) [(vI 6), (vI 0), (vS bk 0 N capk)]) ∧ (b6 < w.heap.size) ∧ (w0.heap.size ≤ b6) ∧ (w.heap[b6]? = some (.cells #[vf, vf] 31 (0, 0))) ∧ (b5 < b6) ∧ (w0.heap.size ≤ (blk (H2 8))) ∧ (b5 < (blk (H2 8))) ∧ (b6 < (blk (H2 8))) ∧ (H2 8 = (vS (blk (H2 8)) 0 0 0)) ∧ (Own w w0.heap.size 26 3 (H2 13) ((selH hv l N).length + 1) ((cellsA (selH hv l N)) ++ [(vI 6), (vI 0), (vS bk 0 N capk)])) ∧ (IsTs w (b6 :: b5 :: oblk (H2 13)) ((atomsT (selH hv l N)) ++ [hashT N]) ((cellsA (selH hv l N)) ++ [(vI 6), (vI 0), (vS bk 0 N capk)])) ∧ (b6 ∉ oblk (H2 13)) ∧ (b5 ∉ oblk (H2 13)) ∧ True := ⟨_, rfl⟩
      obtain ⟨A2_7, hA2_7⟩ : ∃ A : (Nat → Value) → World → Prop, A = fun H2 w => (Ch [] w0 w) ∧ (b5 < w.heap.size) ∧ (w0.heap.size ≤ b5) ∧ (w.heap[b5]? = some (.cells #[(vI 6), (vI 0), (vS bk 0 N capk)] 26 (0, 0))) ∧ (bk < b5) ∧ (SlA w (b6 :: b5 :: oblk (H2 13)) lvl ((selH hv l N).length) (cellsA (selH hv l N))) ∧ (IsT w (b6 :: b5 :: oblk (H2 13)) (hashT N) [(vI 6), (vI 0), (vS bk 0 N capk)]) ∧ (b6 < w.heap.size) ∧ (w0.heap.size ≤ b6) ∧ (w.heap[b6]? = some (.cells #[vf, vf] 31 (0, 0))) ∧ (b5 < b6) ∧ (w0.heap.size ≤ (blk (H2 8))) ∧ (b5 < (blk (H2 8))) ∧ (b6 < (blk (H2 8))) ∧ (H2 8 = (vS (blk (H2 8)) 0 0 0)) ∧ (Own w w0.heap.size 26 3 (H2 13) ((selH hv l N).length + 1) ((cellsA (selH hv l N)) ++ [(vI 6), (vI 0), (vS bk 0 N capk)])) ∧ (IsTs w (b6 :: b5 :: oblk (H2 13)) ((atomsT (selH hv l N)) ++ [hashT N]) ((cellsA (selH hv l N)) ++ [(vI 6), (vI 0), (vS bk 0 N capk)])) ∧ (b6 ∉ oblk (H2 13)) ∧ (b5 ∉ oblk (H2 13)) ∧ True := ⟨_, rfl⟩
      refine region_hist2 mo (fun p_ H_ w_ => (([A2_0, A2_1, A2_2, A2_3, A2_4, A2_5, A2_6, A2_7] : List ((Nat → Value) → World → Prop)).getD p_ (fun _ _ => True)) H_ w_) [4, 5, 8, 10, 13, 15, 16] [2, 12] (fun j_ v_ w_ => bif Nat.beq j_ 2 then (v_ = (vS (blk v_) 0 1 1) ∧ At w_ (blk v_) 0 [(vI 6), (vI 0), (vS bk 0 N capk)]) else bif Nat.beq j_ 12 then (v_ = (vS (blk v_) 0 1 1) ∧ At w_ (blk v_) 0 [(vI 6), (vI 0), (vS bk 0 N capk)]) else False) Gr 4 ?_ (rows := [hr_ [] [(10, (vp b6))] [0, 1] (Value.agg #[vf, vf]), hr_ [] [(9, (vp b5))] [0, 1] (Value.agg #[(vI 6), (vI 0), (vS bk 0 N capk)]), ⟨[(1, 58)], [], [0, 1], [2], fun H2 => H2 2, fun H2 K_ h_ => by simp only [h_ 2 (by simp)]⟩, hr_ [] [(11, (vI (i : Int)))] [0] (vI (i : Int)), hr_ [(3, 60)] [] [0] (Value.agg #[(vI 1), (vI (i : Int)), vN]), ⟨[(0, 57), (2, 59), (4, 61)], [], [1], [2], fun H2 => vf, fun H2 K_ h_ => by simp only [h_ 2 (by simp)]⟩, hr_ [(5, 62)] [] [2] vf, hr_ [(6, 63)] [(10, (vp b6))] [2, 3, 4, 5, 6] (Value.agg #[vf, vf]), ⟨[(6, 63)], [], [2], [8], fun H2 => H2 8, fun H2 K_ h_ => by simp only [h_ 8 (by simp)]⟩, hr_ [(6, 63)] [(6, lvl)] [2, 3] lvl, ⟨[(8, 65), (9, 66), (6, 63)], [], [3], [10], fun H2 => H2 10, fun H2 K_ h_ => by simp only [h_ 10 (by simp)]⟩, hr_ [(6, 63)] [(9, (vp b5))] [2, 3, 4] (Value.agg #[(vI 6), (vI 0), (vS bk 0 N capk)]), ⟨[(11, 68), (6, 63)], [], [2, 3, 4], [12], fun H2 => H2 12, fun H2 K_ h_ => by simp only [h_ 12 (by simp)]⟩, ⟨[(10, 67), (12, 69), (6, 63)], [], [4], [12, 13], fun H2 => H2 13, fun H2 K_ h_ => by simp only [h_ 12 (by simp), h_ 13 (by simp)]⟩, hr_ [(6, 63)] [(11, (vI (i : Int)))] [2, 3, 4, 5] (vI (i : Int)), hr_ [(14, 71), (6, 63)] [] [5] (Value.agg #[(vI 1), (vI (i : Int)), vN]), hr_ [(7, 64), (13, 70), (15, 72), (6, 63)] [] [6] vf, hr_ [(6, 63)] [(11, (vI (i : Int)))] [2, 3, 4, 5, 6, 7] (vI (i : Int)), hr_ [(6, 63)] [(1, (Value.slice ad l cap))] [2, 3, 4, 5, 6, 7] (Value.slice ad l cap), hr_ [(18, 75), (6, 63)] [] [2, 3, 4, 5, 6, 7] (vI (l : Int)), hr_ [(17, 74), (19, 76), (6, 63)] [] [2, 3, 4, 5, 6, 7] vf, hr_ [(20, 77), (6, 63)] [] [7] vf, hr_ [(21, 78)] [(1, (Value.slice ad l cap))] [7] undef, hr_ [(21, 78)] [(11, (vI (i : Int)))] [7] undef, hr_ [(22, 79), (23, 80), (21, 78)] [] [7] undef, hr_ [(24, 81), (21, 78)] [] [7] undef, hr_ [(21, 78), (25, 82), (6, 63)] [] [7] vf, hr_ [(16, 73), (26, 83), (6, 63)] [] [7] vf, hr_ [(6, 63), (27, 84)] [] [7] vf]) (by kernel_rfl) hF (fun H_ => ?_) ?_ ?_
      ·intro j_ v_ w_ w2_ h_ hg_
       by_cases e2_ : j_ = 2
       ·subst e2_; obtain ⟨h1_, h2_⟩ := h_; exact ⟨h1_, h2_.mv (Gr.ch hg_) (by simp)⟩
       by_cases e12_ : j_ = 12
       ·subst e12_; obtain ⟨h1_, h2_⟩ := h_; exact ⟨h1_, h2_.mv (Gr.ch hg_) (by simp)⟩
       simp only [beqf e2_, beqf e12_, cond_false] at h_ ⊢
      ·have hch_ := Ch.drew w
       have hfin_ : A2_0 H_ { w with drawn := w.drawn + 1 } := by rw [hA2_0]; exact ⟨hC.trans' hch_ (fun z hz => .inr (absurd hz (by simp))), hch_.lt hib5, lob5, Ch.blk0 hch_ hb5 (by first | assumption | (simp; done) | (simp <;> omega)), ne_bk_b5, SlA.mv hsl hch_ (by intro y hy; first | (simp at hy; done) | (simp at hy; subst hy; simp; done) | (simp [hy]; done)) (fun x hx => .inl hx), IsT.mv hch_ (by intro y hy; first | (simp at hy; done) | (simp at hy; subst hy; simp; done) | (simp [hy]; done)) (fun x hx => .inl hx) _ _ hTh, hch_.lt hib6, lob6, Ch.blk0 hch_ hb6 (by first | assumption | (simp; done) | (simp <;> omega)), ne_b5_b6, trivial⟩
       exact hfin_
      ·refine ⟨?_, ?_, ?_, ?_, ?_, ?_, ?_, ?_, ?_, ?_, ?_, ?_, ?_, ?_, ?_, ?_, ?_, ?_, ?_, ?_, ?_, ?_, ?_, ?_, ?_, ?_, ?_, ?_, ?_, trivial⟩
       ·refine ⟨⟨rfl, trivial⟩, fun ph_ hp_ H2 w hW hfl_ => ?_⟩
        rcases memN_or hp_ with rfl | hp_
        ·have hW0 := hW
         replace hW : A2_0 H2 w := hW
         rw [hA2_0] at hW
         obtain ⟨hC, hib5, lob5, hb5, ne_bk_b5, hsl, hTh, hib6, lob6, hb6, ne_b5_b6, _⟩ := hW
         exact Det.og Gr.refl rfl rfl hW0 (d_loadC Tryd.underlying31 rfl sz31 rfl ((At.of_blk hb6)) rfl)
        obtain rfl := memN_one hp_
        ·have hW0 := hW
         replace hW : A2_1 H2 w := hW
         rw [hA2_1] at hW
         obtain ⟨hC, hib5, lob5, hb5, ne_bk_b5, hsl, hTh, hib6, lob6, hb6, ne_b5_b6, _⟩ := hW
         exact Det.og Gr.refl rfl rfl hW0 (d_loadC Tryd.underlying31 rfl sz31 rfl ((At.of_blk hb6)) rfl)
       ·refine ⟨⟨rfl, trivial⟩, fun ph_ hp_ H2 w hW hfl_ => ?_⟩
        rcases memN_or hp_ with rfl | hp_
        ·have hW0 := hW
         replace hW : A2_0 H2 w := hW
         rw [hA2_0] at hW
         obtain ⟨hC, hib5, lob5, hb5, ne_bk_b5, hsl, hTh, hib6, lob6, hb6, ne_b5_b6, _⟩ := hW
         exact Det.og Gr.refl rfl rfl hW0 (d_loadC Tryd.underlying26 rfl sz26 rfl ((At.of_blk hb5)) rfl)
        obtain rfl := memN_one hp_
        ·have hW0 := hW
         replace hW : A2_1 H2 w := hW
         rw [hA2_1] at hW
         obtain ⟨hC, hib5, lob5, hb5, ne_bk_b5, hsl, hTh, hib6, lob6, hb6, ne_b5_b6, _⟩ := hW
         exact Det.og Gr.refl rfl rfl hW0 (d_loadC Tryd.underlying26 rfl sz26 rfl ((At.of_blk hb5)) rfl)
       ·refine ⟨trivial, fun ph_ hp_ H2 w hW hfl_ => ?_⟩
        rcases memN_or hp_ with rfl | hp_
        ·replace hW : A2_0 H2 w := hW
         rw [hA2_0] at hW
         obtain ⟨hC, hib5, lob5, hb5, ne_bk_b5, hsl, hTh, hib6, lob6, hb6, ne_b5_b6, _⟩ := hW
         refine Ok1.mono (ok_buildSlice (cells := #[(vI 6), (vI 0), (vS bk 0 N capk)]) Tryd.underlying24 zz26 rfl (by decide) (by decide) (by exact fillT1)) ?_
         rintro _ w' ⟨b12, rfl, hnb_⟩
         have hch_ : Ch [] _ w' := hnb_.ch
         have hC := hC.trans' hch_ (fun z hz => .inr (absurd hz (by simp)))
         have hib5 := hch_.lt hib5
         have hb5 := Ch.blk0 hch_ hb5 (by first | assumption | (simp; done) | (simp <;> omega))
         have hsl : SlA w' (b6 :: b5 :: []) lvl ((selH hv l N).length) (cellsA (selH hv l N)) := SlA.mv hsl hch_ (by intro y hy; first | (simp at hy; done) | (simp at hy; subst hy; simp; done) | (simp [hy]; done)) (fun x hx => .inl hx)
         have hTh : IsT w' (b6 :: b5 :: []) (hashT N) [(vI 6), (vI 0), (vS bk 0 N capk)] := IsT.mv hch_ (by intro y hy; first | (simp at hy; done) | (simp at hy; subst hy; simp; done) | (simp [hy]; done)) (fun x hx => .inl hx) _ _ hTh
         have hib6 := hch_.lt hib6
         have hb6 := Ch.blk0 hch_ hb6 (by first | assumption | (simp; done) | (simp <;> omega))
         have hb12 : At w' b12 0 [(vI 6), (vI 0), (vS bk 0 N capk)] := hnb_.at
         have hfin_ : A2_0 (updV H2 2 (vS b12 0 1 1)) w' := by rw [hA2_0]; exact ⟨hC, hib5, lob5, hb5, ne_bk_b5, hsl, hTh, hib6, lob6, hb6, ne_b5_b6, trivial⟩
         exact R2.flo rfl rfl hfin_ rfl (Ch.gr hch_) ⟨rfl, hb12⟩
        obtain rfl := memN_one hp_
        ·replace hW : A2_1 H2 w := hW
         rw [hA2_1] at hW
         obtain ⟨hC, hib5, lob5, hb5, ne_bk_b5, hsl, hTh, hib6, lob6, hb6, ne_b5_b6, _⟩ := hW
         refine Ok1.mono (ok_buildSlice (cells := #[(vI 6), (vI 0), (vS bk 0 N capk)]) Tryd.underlying24 zz26 rfl (by decide) (by decide) (by exact fillT1)) ?_
         rintro _ w' ⟨b12, rfl, hnb_⟩
         have hch_ : Ch [] _ w' := hnb_.ch
         have hC := hC.trans' hch_ (fun z hz => .inr (absurd hz (by simp)))
         have hib5 := hch_.lt hib5
         have hb5 := Ch.blk0 hch_ hb5 (by first | assumption | (simp; done) | (simp <;> omega))
         have hsl : SlA w' (b6 :: b5 :: []) lvl ((selH hv l N).length) (cellsA (selH hv l N)) := SlA.mv hsl hch_ (by intro y hy; first | (simp at hy; done) | (simp at hy; subst hy; simp; done) | (simp [hy]; done)) (fun x hx => .inl hx)
         have hTh : IsT w' (b6 :: b5 :: []) (hashT N) [(vI 6), (vI 0), (vS bk 0 N capk)] := IsT.mv hch_ (by intro y hy; first | (simp at hy; done) | (simp at hy; subst hy; simp; done) | (simp [hy]; done)) (fun x hx => .inl hx) _ _ hTh
         have hib6 := hch_.lt hib6
         have hb6 := Ch.blk0 hch_ hb6 (by first | assumption | (simp; done) | (simp <;> omega))
         have hb12 : At w' b12 0 [(vI 6), (vI 0), (vS bk 0 N capk)] := hnb_.at
         have hfin_ : A2_1 (updV H2 2 (vS b12 0 1 1)) w' := by rw [hA2_1]; exact ⟨hC, hib5, lob5, hb5, ne_bk_b5, hsl, hTh, hib6, lob6, hb6, ne_b5_b6, trivial⟩
         exact R2.flo rfl rfl hfin_ rfl (Ch.gr hch_) ⟨rfl, hb12⟩
       ·exact GOb.pure Gr.refl ⟨rfl, trivial⟩ rfl rfl rfl (fun _ _ => d_move rfl)
       ·refine ⟨trivial, fun ph_ hp_ H2 w hW hfl_ => ?_⟩
        obtain rfl := memN_one hp_
        replace hW : A2_0 H2 w := hW
        rw [hA2_0] at hW
        obtain ⟨hC, hib5, lob5, hb5, ne_bk_b5, hsl, hTh, hib6, lob6, hb6, ne_b5_b6, _⟩ := hW
        refine Ok1.mono (ok_call c16 rfl (atom_calls _)) ?_
        rintro _ w' ⟨rfl, hg_⟩
        have hch_ : Ch [] _ w' := Gr.ch hg_
        have hC := hC.trans' hch_ (fun z hz => .inr (absurd hz (by simp)))
        have hib5 := hch_.lt hib5
        have hb5 := Ch.blk0 hch_ hb5 (by first | assumption | (simp; done) | (simp <;> omega))
        have hsl : SlA w' (b6 :: b5 :: []) lvl ((selH hv l N).length) (cellsA (selH hv l N)) := SlA.mv hsl hch_ (by intro y hy; first | (simp at hy; done) | (simp at hy; subst hy; simp; done) | (simp [hy]; done)) (fun x hx => .inl hx)
        have hTh : IsT w' (b6 :: b5 :: []) (hashT N) [(vI 6), (vI 0), (vS bk 0 N capk)] := IsT.mv hch_ (by intro y hy; first | (simp at hy; done) | (simp at hy; subst hy; simp; done) | (simp [hy]; done)) (fun x hx => .inl hx) _ _ hTh
        have hib6 := hch_.lt hib6
        have hb6 := Ch.blk0 hch_ hb6 (by first | assumption | (simp; done) | (simp <;> omega))
        have hfin_ : A2_1 (updV H2 4 (Value.agg #[(vI 1), (vI (i : Int)), vN])) w' := by rw [hA2_1]; exact ⟨hC, hib5, lob5, hb5, ne_bk_b5, hsl, hTh, hib6, lob6, hb6, ne_b5_b6, trivial⟩
        exact R2.eff rfl hfin_ rfl (fun _ => Ch.gr hch_) rfl
       ·refine ⟨trivial, fun ph_ hp_ H2 w hW hfl_ => ?_⟩
        obtain rfl := memN_one hp_
        replace hW : A2_1 H2 w := hW
        rw [hA2_1] at hW
        obtain ⟨hC, hib5, lob5, hb5, ne_bk_b5, hsl, hTh, hib6, lob6, hb6, ne_b5_b6, _⟩ := hW
        obtain ⟨hv2_2, hb12⟩ := hfl_ (by decide) 2 (by simp) (by decide) rfl
        refine Ok1.sub (L' := [(57, (Value.agg #[vf, vf])), (59, (vS (blk (H2 2)) 0 1 1)), (61, (Value.agg #[(vI 1), (vI (i : Int)), vN]))]) ⟨rfl, congrArg some hv2_2, rfl, trivial⟩ (Ok1.mono (ok_call c19 rfl (Knows_sla_is (W := ⟨false, false⟩) (known := [hashT N]) (t := Tm.mk 1 (i : Int) []) (hash_b2 hN.1 hN.2 (by omega)) _ (hT0 _ _ (hC.below hw0.size (by simp)) hw0) (by simp) rfl (.inr ⟨_, 0, _, rfl, (by simp : _ ∉ []), At.lt hb12, hb12⟩) (IsTs.one (IsT.sub (X := (b6 :: b5 :: [])) (X' := []) hTh (by simp))) (IsT.sub (X := (b6 :: b5 :: [])) (X' := []) (isT_atom _ _ _) (by simp)))) ?_)
        rintro _ w' ⟨rfl, hg_⟩
        have hch_ : Ch [] _ w' := Gr.ch hg_
        have hC := hC.trans' hch_ (fun z hz => .inr (absurd hz (by simp)))
        have hib5 := hch_.lt hib5
        have hb5 := Ch.blk0 hch_ hb5 (by first | assumption | (simp; done) | (simp <;> omega))
        have hsl : SlA w' (b6 :: b5 :: []) lvl ((selH hv l N).length) (cellsA (selH hv l N)) := SlA.mv hsl hch_ (by intro y hy; first | (simp at hy; done) | (simp at hy; subst hy; simp; done) | (simp [hy]; done)) (fun x hx => .inl hx)
        have hTh : IsT w' (b6 :: b5 :: []) (hashT N) [(vI 6), (vI 0), (vS bk 0 N capk)] := IsT.mv hch_ (by intro y hy; first | (simp at hy; done) | (simp at hy; subst hy; simp; done) | (simp [hy]; done)) (fun x hx => .inl hx) _ _ hTh
        have hib6 := hch_.lt hib6
        have hb6 := Ch.blk0 hch_ hb6 (by first | assumption | (simp; done) | (simp <;> omega))
        have hfin_ : A2_2 (updV H2 5 vf) w' := by rw [hA2_2]; exact ⟨hC, hib5, lob5, hb5, ne_bk_b5, hsl, hTh, hib6, lob6, hb6, ne_b5_b6, trivial⟩
        exact R2.eff rfl hfin_ rfl (fun _ => Ch.gr hch_) rfl
       ·exact GOb.pure Gr.refl trivial rfl rfl rfl (fun _ _ => d_move rfl)
       ·refine ⟨⟨rfl, trivial⟩, fun ph_ hp_ H2 w hW hfl_ => ?_⟩
        rcases memN_or hp_ with rfl | hp_
        ·have hW0 := hW
         replace hW : A2_2 H2 w := hW
         rw [hA2_2] at hW
         obtain ⟨hC, hib5, lob5, hb5, ne_bk_b5, hsl, hTh, hib6, lob6, hb6, ne_b5_b6, _⟩ := hW
         exact ⟨(some false), _, rfl, rfl, Det.og Gr.refl rfl rfl hW0 (d_loadC Tryd.underlying31 rfl sz31 rfl ((At.of_blk hb6)) rfl)⟩
        rcases memN_or hp_ with rfl | hp_
        ·have hW0 := hW
         replace hW : A2_3 H2 w := hW
         rw [hA2_3] at hW
         obtain ⟨hC, hib5, lob5, hb5, ne_bk_b5, hsl, hTh, hib6, lob6, hb6, ne_b5_b6, hib13, lob13, hb13, ne_b5_b13, ne_b6_b13, hv2_8, _⟩ := hW
         exact ⟨(some false), _, rfl, rfl, Det.og Gr.refl rfl rfl hW0 (d_loadC Tryd.underlying31 rfl sz31 rfl ((At.of_blk hb6)) rfl)⟩
        rcases memN_or hp_ with rfl | hp_
        ·have hW0 := hW
         replace hW : A2_4 H2 w := hW
         rw [hA2_4] at hW
         obtain ⟨hC, hib5, lob5, hb5, ne_bk_b5, hsl, hTh, hib6, lob6, hb6, ne_b5_b6, lob13, ne_b5_b13, ne_b6_b13, hv2_8, hown, hts, hnob6, hnob5, _⟩ := hW
         exact ⟨(some false), _, rfl, rfl, Det.og Gr.refl rfl rfl hW0 (d_loadC Tryd.underlying31 rfl sz31 rfl ((At.of_blk hb6)) rfl)⟩
        rcases memN_or hp_ with rfl | hp_
        ·have hW0 := hW
         replace hW : A2_5 H2 w := hW
         rw [hA2_5] at hW
         obtain ⟨hC, hib5, lob5, hb5, ne_bk_b5, hsl, hTh, hib6, lob6, hb6, ne_b5_b6, lob13, ne_b5_b13, ne_b6_b13, hv2_8, hown, hts, hnob6, hnob5, _⟩ := hW
         exact ⟨(some false), _, rfl, rfl, Det.og Gr.refl rfl rfl hW0 (d_loadC Tryd.underlying31 rfl sz31 rfl ((At.of_blk hb6)) rfl)⟩
        obtain rfl := memN_one hp_
        ·have hW0 := hW
         replace hW : A2_6 H2 w := hW
         rw [hA2_6] at hW
         obtain ⟨hC, hib5, lob5, hb5, ne_bk_b5, hsl, hTh, hib6, lob6, hb6, ne_b5_b6, lob13, ne_b5_b13, ne_b6_b13, hv2_8, hown, hts, hnob6, hnob5, _⟩ := hW
         exact ⟨(some false), _, rfl, rfl, Det.og Gr.refl rfl rfl hW0 (d_loadC Tryd.underlying31 rfl sz31 rfl ((At.of_blk hb6)) rfl)⟩
       ·refine ⟨trivial, fun ph_ hp_ H2 w hW hfl_ => ?_⟩
        obtain rfl := memN_one hp_
        replace hW : A2_2 H2 w := hW
        rw [hA2_2] at hW
        obtain ⟨hC, hib5, lob5, hb5, ne_bk_b5, hsl, hTh, hib6, lob6, hb6, ne_b5_b6, _⟩ := hW
        refine ⟨(some false), _, rfl, rfl, Ok1.mono (ok_buildSlice0 Tryd.underlying24 sz26) ?_⟩
        rintro _ w' ⟨b13, rfl, hnb_⟩
        have hch_ : Ch [] _ w' := hnb_.ch
        have lo_ := hnb_.lo hC.size
        have ne_b5_b13 := hnb_.gt hib5
        have ne_b6_b13 := hnb_.gt hib6
        have hTh_ := hTh
        have hsl_ := hsl
        have hC := hC.trans' hch_ (fun z hz => .inr (absurd hz (by simp)))
        have hib5 := hch_.lt hib5
        have hb5 := Ch.blk0 hch_ hb5 (by first | assumption | (simp; done) | (simp <;> omega))
        have hib6 := hch_.lt hib6
        have hb6 := Ch.blk0 hch_ hb6 (by first | assumption | (simp; done) | (simp <;> omega))
        have hib13 : b13 < w'.heap.size := hnb_.lt
        have lob13 : w0.heap.size ≤ b13 := lo_
        have hb13 : w'.heap[b13]? = some (.cells #[] 26 (0, 0)) := hnb_.blk
        have ne_b5_b13 : b5 < b13 := ne_b5_b13
        have ne_b6_b13 : b6 < b13 := ne_b6_b13
        have hTh : IsT w' (b13 :: b6 :: b5 :: []) (hashT N) [(vI 6), (vI 0), (vS bk 0 N capk)] := IsT.mv hnb_.ch (by simp) (fun x hx => by rcases List.mem_cons.1 hx with rfl | hx; exact .inr (Nat.le_of_eq hnb_.num.symm); exact .inl hx) _ _ hTh_
        have hsl : SlA w' (b13 :: b6 :: b5 :: []) lvl ((selH hv l N).length) (cellsA (selH hv l N)) := SlA.mv hsl_ hnb_.ch (by simp) (fun x hx => by rcases List.mem_cons.1 hx with rfl | hx; exact .inr (Nat.le_of_eq hnb_.num.symm); exact .inl hx)
        have hfin_ : A2_3 (updV H2 8 (vS b13 0 0 0)) w' := by rw [hA2_3]; exact ⟨hC, hib5, lob5, hb5, ne_bk_b5, hsl, hTh, hib6, lob6, hb6, ne_b5_b6, hib13, lob13, hb13, ne_b5_b13, ne_b6_b13, rfl, trivial⟩
        exact R2.eff rfl hfin_ rfl (fun _ => Ch.gr hch_) rfl
       ·exact GOb.pureG Gr.refl ⟨rfl, trivial⟩ rfl rfl (fun _ => rfl) rfl rfl (fun _ _ => d_move rfl)
       ·refine ⟨trivial, fun ph_ hp_ H2 w hW hfl_ => ?_⟩
        obtain rfl := memN_one hp_
        replace hW : A2_3 H2 w := hW
        rw [hA2_3] at hW
        obtain ⟨hC, hib5, lob5, hb5, ne_bk_b5, hsl, hTh, hib6, lob6, hb6, ne_b5_b6, hib13, lob13, hb13, ne_b5_b13, ne_b6_b13, hv2_8, _⟩ := hW
        refine ⟨(some false), _, rfl, rfl, Ok1.sub (L' := [(63, vf), (65, (vS (blk (H2 8)) 0 0 0)), (66, lvl)]) ⟨rfl, congrArg some hv2_8, rfl, trivial⟩ (Ok1.mono (ok_append00S (m := 3) Tryd.underlying24 ii26 rfl (by decide) rfl rfl hb13 lob13 hsl (cellsA_len _) cells1A (by omega) (by unfold maxLen; omega) hC.size) ?_)⟩
        rintro lv14 w' ⟨hown, hch0_, hob⟩
        have hch_ : Ch [] _ w' := hch0_
        have hob : oblk lv14 = [(blk (H2 8))] ∨ oblk lv14 = [_] := hob
        have hxx_ : ∀ x, x ∈ (b6 :: b5 :: oblk lv14) → x ∈ ((blk (H2 8)) :: b6 :: b5 :: []) ∨ _ ≤ x := fun x hx => by
         simp only [List.mem_cons] at hx ⊢
         rcases hx with h_ | h_ | hx
         ·exact .inl (by simp [h_])
         ·exact .inl (by simp [h_])
         ·rcases hob with hob | hob
          ·rw [hob] at hx; simp at hx; exact .inl (by simp [hx])
          ·rw [hob] at hx; simp at hx; exact .inr (Nat.le_of_eq hx.symm)
        have hnxb6_ := nin_ob (lv := .slice (some ⟨(blk (H2 8)), 0, none⟩) 0 0) hob (by simp [oblk] <;> omega) hib6
        have hnxb5_ := nin_ob (lv := .slice (some ⟨(blk (H2 8)), 0, none⟩) 0 0) hob (by simp [oblk] <;> omega) hib5
        have hC := hC.trans' hch_ (fun z hz => .inr (absurd hz (by simp)))
        have hib5 := hch_.lt hib5
        have hb5 := Ch.blk0 hch_ hb5 (by first | assumption | (simp; done) | (simp <;> omega))
        have hib6 := hch_.lt hib6
        have hb6 := Ch.blk0 hch_ hb6 (by first | assumption | (simp; done) | (simp <;> omega))
        have hown : Own w' w0.heap.size 26 3 lv14 (selH hv l N).length (cellsA (selH hv l N)) := hown
        have hts : IsTs w' (b6 :: b5 :: oblk lv14) (atomsT (selH hv l N)) (cellsA (selH hv l N)) := isTs_atoms _
        have hnob6 : b6 ∉ oblk lv14 := hnxb6_
        have hnob5 : b5 ∉ oblk lv14 := hnxb5_
        have hTh : IsT w' (b6 :: b5 :: oblk lv14) (hashT N) [(vI 6), (vI 0), (vS bk 0 N capk)] := IsT.mv hch_ (by simp) hxx_ _ _ hTh
        have hsl : SlA w' (b6 :: b5 :: oblk lv14) lvl ((selH hv l N).length) (cellsA (selH hv l N)) := SlA.mv hsl hch_ (by simp) hxx_
        have hfin_ : A2_4 (updV H2 10 lv14) w' := by rw [hA2_4]; exact ⟨hC, hib5, lob5, hb5, ne_bk_b5, hsl, hTh, hib6, lob6, hb6, ne_b5_b6, lob13, ne_b5_b13, ne_b6_b13, hv2_8, hown, hts, hnob6, hnob5, trivial⟩
        exact R2.eff rfl hfin_ rfl (fun _ => Ch.gr hch_) rfl
       ·refine ⟨⟨rfl, trivial⟩, fun ph_ hp_ H2 w hW hfl_ => ?_⟩
        rcases memN_or hp_ with rfl | hp_
        ·have hW0 := hW
         replace hW : A2_2 H2 w := hW
         rw [hA2_2] at hW
         obtain ⟨hC, hib5, lob5, hb5, ne_bk_b5, hsl, hTh, hib6, lob6, hb6, ne_b5_b6, _⟩ := hW
         exact ⟨(some false), _, rfl, rfl, Det.og Gr.refl rfl rfl hW0 (d_loadC Tryd.underlying26 rfl sz26 rfl ((At.of_blk hb5)) rfl)⟩
        rcases memN_or hp_ with rfl | hp_
        ·have hW0 := hW
         replace hW : A2_3 H2 w := hW
         rw [hA2_3] at hW
         obtain ⟨hC, hib5, lob5, hb5, ne_bk_b5, hsl, hTh, hib6, lob6, hb6, ne_b5_b6, hib13, lob13, hb13, ne_b5_b13, ne_b6_b13, hv2_8, _⟩ := hW
         exact ⟨(some false), _, rfl, rfl, Det.og Gr.refl rfl rfl hW0 (d_loadC Tryd.underlying26 rfl sz26 rfl ((At.of_blk hb5)) rfl)⟩
        obtain rfl := memN_one hp_
        ·have hW0 := hW
         replace hW : A2_4 H2 w := hW
         rw [hA2_4] at hW
         obtain ⟨hC, hib5, lob5, hb5, ne_bk_b5, hsl, hTh, hib6, lob6, hb6, ne_b5_b6, lob13, ne_b5_b13, ne_b6_b13, hv2_8, hown, hts, hnob6, hnob5, _⟩ := hW
         exact ⟨(some false), _, rfl, rfl, Det.og Gr.refl rfl rfl hW0 (d_loadC Tryd.underlying26 rfl sz26 rfl ((At.of_blk hb5)) rfl)⟩
       ·refine ⟨trivial, fun ph_ hp_ H2 w hW hfl_ => ?_⟩
        rcases memN_or hp_ with rfl | hp_
        ·replace hW : A2_2 H2 w := hW
         rw [hA2_2] at hW
         obtain ⟨hC, hib5, lob5, hb5, ne_bk_b5, hsl, hTh, hib6, lob6, hb6, ne_b5_b6, _⟩ := hW
         refine ⟨(some false), _, rfl, rfl, Ok1.mono (ok_buildSlice (cells := #[(vI 6), (vI 0), (vS bk 0 N capk)]) Tryd.underlying24 zz26 rfl (by decide) (by decide) (by exact fillT1)) ?_⟩
         rintro _ w' ⟨b15, rfl, hnb_⟩
         have hch_ : Ch [] _ w' := hnb_.ch
         have hC := hC.trans' hch_ (fun z hz => .inr (absurd hz (by simp)))
         have hib5 := hch_.lt hib5
         have hb5 := Ch.blk0 hch_ hb5 (by first | assumption | (simp; done) | (simp <;> omega))
         have hsl : SlA w' (b6 :: b5 :: []) lvl ((selH hv l N).length) (cellsA (selH hv l N)) := SlA.mv hsl hch_ (by intro y hy; first | (simp at hy; done) | (simp at hy; subst hy; simp; done) | (simp [hy]; done)) (fun x hx => .inl hx)
         have hTh : IsT w' (b6 :: b5 :: []) (hashT N) [(vI 6), (vI 0), (vS bk 0 N capk)] := IsT.mv hch_ (by intro y hy; first | (simp at hy; done) | (simp at hy; subst hy; simp; done) | (simp [hy]; done)) (fun x hx => .inl hx) _ _ hTh
         have hib6 := hch_.lt hib6
         have hb6 := Ch.blk0 hch_ hb6 (by first | assumption | (simp; done) | (simp <;> omega))
         have hb15 : At w' b15 0 [(vI 6), (vI 0), (vS bk 0 N capk)] := hnb_.at
         have hfin_ : A2_2 (updV H2 12 (vS b15 0 1 1)) w' := by rw [hA2_2]; exact ⟨hC, hib5, lob5, hb5, ne_bk_b5, hsl, hTh, hib6, lob6, hb6, ne_b5_b6, trivial⟩
         exact R2.flo rfl rfl hfin_ rfl (Ch.gr hch_) ⟨rfl, hb15⟩
        rcases memN_or hp_ with rfl | hp_
        ·replace hW : A2_3 H2 w := hW
         rw [hA2_3] at hW
         obtain ⟨hC, hib5, lob5, hb5, ne_bk_b5, hsl, hTh, hib6, lob6, hb6, ne_b5_b6, hib13, lob13, hb13, ne_b5_b13, ne_b6_b13, hv2_8, _⟩ := hW
         refine ⟨(some false), _, rfl, rfl, Ok1.mono (ok_buildSlice (cells := #[(vI 6), (vI 0), (vS bk 0 N capk)]) Tryd.underlying24 zz26 rfl (by decide) (by decide) (by exact fillT1)) ?_⟩
         rintro _ w' ⟨b15, rfl, hnb_⟩
         have hch_ : Ch [] _ w' := hnb_.ch
         have hC := hC.trans' hch_ (fun z hz => .inr (absurd hz (by simp)))
         have hib5 := hch_.lt hib5
         have hb5 := Ch.blk0 hch_ hb5 (by first | assumption | (simp; done) | (simp <;> omega))
         have hsl : SlA w' ((blk (H2 8)) :: b6 :: b5 :: []) lvl ((selH hv l N).length) (cellsA (selH hv l N)) := SlA.mv hsl hch_ (by intro y hy; first | (simp at hy; done) | (simp at hy; subst hy; simp; done) | (simp [hy]; done)) (fun x hx => .inl hx)
         have hTh : IsT w' ((blk (H2 8)) :: b6 :: b5 :: []) (hashT N) [(vI 6), (vI 0), (vS bk 0 N capk)] := IsT.mv hch_ (by intro y hy; first | (simp at hy; done) | (simp at hy; subst hy; simp; done) | (simp [hy]; done)) (fun x hx => .inl hx) _ _ hTh
         have hib6 := hch_.lt hib6
         have hb6 := Ch.blk0 hch_ hb6 (by first | assumption | (simp; done) | (simp <;> omega))
         have hib13 := hch_.lt hib13
         have hb13 := Ch.blk0 hch_ hb13 (by first | assumption | (simp; done) | (simp <;> omega))
         have hb15 : At w' b15 0 [(vI 6), (vI 0), (vS bk 0 N capk)] := hnb_.at
         have hfin_ : A2_3 (updV H2 12 (vS b15 0 1 1)) w' := by rw [hA2_3]; exact ⟨hC, hib5, lob5, hb5, ne_bk_b5, hsl, hTh, hib6, lob6, hb6, ne_b5_b6, hib13, lob13, hb13, ne_b5_b13, ne_b6_b13, hv2_8, trivial⟩
         exact R2.flo rfl rfl hfin_ rfl (Ch.gr hch_) ⟨rfl, hb15⟩
        obtain rfl := memN_one hp_
        ·replace hW : A2_4 H2 w := hW
         rw [hA2_4] at hW
         obtain ⟨hC, hib5, lob5, hb5, ne_bk_b5, hsl, hTh, hib6, lob6, hb6, ne_b5_b6, lob13, ne_b5_b13, ne_b6_b13, hv2_8, hown, hts, hnob6, hnob5, _⟩ := hW
         refine ⟨(some false), _, rfl, rfl, Ok1.mono (ok_buildSlice (cells := #[(vI 6), (vI 0), (vS bk 0 N capk)]) Tryd.underlying24 zz26 rfl (by decide) (by decide) (by exact fillT1)) ?_⟩
         rintro _ w' ⟨b15, rfl, hnb_⟩
         have hch_ : Ch [] _ w' := hnb_.ch
         have hC := hC.trans' hch_ (fun z hz => .inr (absurd hz (by simp)))
         have hib5 := hch_.lt hib5
         have hb5 := Ch.blk0 hch_ hb5 (by first | assumption | (simp; done) | (simp <;> omega))
         have hsl : SlA w' (b6 :: b5 :: oblk (H2 10)) lvl ((selH hv l N).length) (cellsA (selH hv l N)) := SlA.mv hsl hch_ (by intro y hy; first | (simp at hy; done) | (simp at hy; subst hy; simp; done) | (simp [hy]; done)) (fun x hx => .inl hx)
         have hTh : IsT w' (b6 :: b5 :: oblk (H2 10)) (hashT N) [(vI 6), (vI 0), (vS bk 0 N capk)] := IsT.mv hch_ (by intro y hy; first | (simp at hy; done) | (simp at hy; subst hy; simp; done) | (simp [hy]; done)) (fun x hx => .inl hx) _ _ hTh
         have hib6 := hch_.lt hib6
         have hb6 := Ch.blk0 hch_ hb6 (by first | assumption | (simp; done) | (simp <;> omega))
         have hown := Own.mv hown hch_ (fun b_ hb_ => by first | (simp; done) | (intro hm_; simp at hm_; subst hm_; contradiction))
         have hts : IsTs w' (b6 :: b5 :: oblk (H2 10)) (atomsT (selH hv l N)) (cellsA (selH hv l N)) := IsTs.mv hch_ (by intro y hy; first | (simp at hy; done) | (simp at hy; subst hy; simp; done) | (simp [hy]; done)) (fun x hx => .inl hx) _ _ hts
         have hb15 : At w' b15 0 [(vI 6), (vI 0), (vS bk 0 N capk)] := hnb_.at
         have hfin_ : A2_4 (updV H2 12 (vS b15 0 1 1)) w' := by rw [hA2_4]; exact ⟨hC, hib5, lob5, hb5, ne_bk_b5, hsl, hTh, hib6, lob6, hb6, ne_b5_b6, lob13, ne_b5_b13, ne_b6_b13, hv2_8, hown, hts, hnob6, hnob5, trivial⟩
         exact R2.flo rfl rfl hfin_ rfl (Ch.gr hch_) ⟨rfl, hb15⟩
       ·refine ⟨trivial, fun ph_ hp_ H2 w hW hfl_ => ?_⟩
        obtain rfl := memN_one hp_
        replace hW : A2_4 H2 w := hW
        rw [hA2_4] at hW
        obtain ⟨hC, hib5, lob5, hb5, ne_bk_b5, hsl, hTh, hib6, lob6, hb6, ne_b5_b6, lob13, ne_b5_b13, ne_b6_b13, hv2_8, hown, hts, hnob6, hnob5, _⟩ := hW
        obtain ⟨hv2_12, hb15⟩ := hfl_ (by decide) 12 (by simp) (by decide) rfl
        have hown0_ := hown
        refine ⟨(some false), _, rfl, rfl, Ok1.sub (L' := [(63, vf), (67, (H2 10)), (69, (vS (blk (H2 12)) 0 1 1))]) ⟨rfl, rfl, congrArg some hv2_12, trivial⟩ (Ok1.mono (ok_appendm (m := 3) (k := 1) (b := (blk (H2 12))) (o := 0) (news := [(vI 6), (vI 0), (vS bk 0 N capk)]) Tryd.underlying24 ii26 rfl (by decide) rfl rfl hown rfl hb15 (IsT.cells1 hTh) (by omega) (by unfold maxLen; omega) hC.size) ?_)⟩
        rintro lv16 w' ⟨hown, hch0_, hob⟩
        have hch_ : Ch (oblk (H2 10)) _ w' := hch0_
        have hxx_ : ∀ x, x ∈ (b6 :: b5 :: oblk lv16) → x ∈ (b6 :: b5 :: oblk (H2 10)) ∨ _ ≤ x := fun x hx => by
         simp only [List.mem_cons] at hx ⊢
         rcases hx with h_ | h_ | hx
         ·exact .inl (by simp [h_])
         ·exact .inl (by simp [h_])
         ·rcases hob with hob | hob
          ·rw [hob] at hx; exact .inl (by simp [hx])
          ·rw [hob] at hx; simp at hx; exact .inr (Nat.le_of_eq hx.symm)
        have hnxb6_ := nin_ob hob hnob6 hib6
        have hnxb5_ := nin_ob hob hnob5 hib5
        have hC := hC.trans' hch_ (fun z hz => .inr ((Own.lt hown0_ z hz).1))
        have hib5 := hch_.lt hib5
        have hb5 := Ch.blk0 hch_ hb5 (by first | assumption | (simp; done) | (simp <;> omega))
        have hib6 := hch_.lt hib6
        have hb6 := Ch.blk0 hch_ hb6 (by first | assumption | (simp; done) | (simp <;> omega))
        have hts : IsTs w' (b6 :: b5 :: oblk lv16) ((atomsT (selH hv l N)) ++ [hashT N]) ((cellsA (selH hv l N)) ++ [(vI 6), (vI 0), (vS bk 0 N capk)]) := (IsTs.mv hch_ (fun y hy => by simp [hy]) hxx_ _ _ hts).app (IsTs.one (IsT.mv hch_ (fun y hy => by simp [hy]) hxx_ _ _ hTh))
        have hTh : IsT w' (b6 :: b5 :: oblk lv16) (hashT N) [(vI 6), (vI 0), (vS bk 0 N capk)] := IsT.mv hch_ (fun y hy => by simp [hy]) hxx_ _ _ hTh
        have hnob6 : b6 ∉ oblk lv16 := hnxb6_
        have hnob5 : b5 ∉ oblk lv16 := hnxb5_
        have hsl : SlA w' (b6 :: b5 :: oblk lv16) lvl ((selH hv l N).length) (cellsA (selH hv l N)) := SlA.mv hsl hch_ (fun y hy => by simp [hy]) hxx_
        have hfin_ : A2_5 (updV H2 13 lv16) w' := by rw [hA2_5]; exact ⟨hC, hib5, lob5, hb5, ne_bk_b5, hsl, hTh, hib6, lob6, hb6, ne_b5_b6, lob13, ne_b5_b13, ne_b6_b13, hv2_8, hown, hts, hnob6, hnob5, trivial⟩
        exact R2.eff rfl hfin_ rfl (fun h_ => absurd h_ (by decide)) rfl
       ·exact GOb.pureG Gr.refl ⟨rfl, trivial⟩ rfl rfl (fun _ => rfl) rfl rfl (fun _ _ => d_move rfl)
       ·refine ⟨trivial, fun ph_ hp_ H2 w hW hfl_ => ?_⟩
        obtain rfl := memN_one hp_
        replace hW : A2_5 H2 w := hW
        rw [hA2_5] at hW
        obtain ⟨hC, hib5, lob5, hb5, ne_bk_b5, hsl, hTh, hib6, lob6, hb6, ne_b5_b6, lob13, ne_b5_b13, ne_b6_b13, hv2_8, hown, hts, hnob6, hnob5, _⟩ := hW
        refine ⟨(some false), _, rfl, rfl, Ok1.mono (ok_call c16 rfl (atom_calls _)) ?_⟩
        rintro _ w' ⟨rfl, hg_⟩
        have hch_ : Ch [] _ w' := Gr.ch hg_
        have hC := hC.trans' hch_ (fun z hz => .inr (absurd hz (by simp)))
        have hib5 := hch_.lt hib5
        have hb5 := Ch.blk0 hch_ hb5 (by first | assumption | (simp; done) | (simp <;> omega))
        have hsl : SlA w' (b6 :: b5 :: oblk (H2 13)) lvl ((selH hv l N).length) (cellsA (selH hv l N)) := SlA.mv hsl hch_ (by intro y hy; first | (simp at hy; done) | (simp at hy; subst hy; simp; done) | (simp [hy]; done)) (fun x hx => .inl hx)
        have hTh : IsT w' (b6 :: b5 :: oblk (H2 13)) (hashT N) [(vI 6), (vI 0), (vS bk 0 N capk)] := IsT.mv hch_ (by intro y hy; first | (simp at hy; done) | (simp at hy; subst hy; simp; done) | (simp [hy]; done)) (fun x hx => .inl hx) _ _ hTh
        have hib6 := hch_.lt hib6
        have hb6 := Ch.blk0 hch_ hb6 (by first | assumption | (simp; done) | (simp <;> omega))
        have hown := Own.mv hown hch_ (fun b_ hb_ => by first | (simp; done) | (intro hm_; simp at hm_; subst hm_; contradiction))
        have hts : IsTs w' (b6 :: b5 :: oblk (H2 13)) ((atomsT (selH hv l N)) ++ [hashT N]) ((cellsA (selH hv l N)) ++ [(vI 6), (vI 0), (vS bk 0 N capk)]) := IsTs.mv hch_ (by intro y hy; first | (simp at hy; done) | (simp at hy; subst hy; simp; done) | (simp [hy]; done)) (fun x hx => .inl hx) _ _ hts
        have hfin_ : A2_6 (updV H2 15 (Value.agg #[(vI 1), (vI (i : Int)), vN])) w' := by rw [hA2_6]; exact ⟨hC, hib5, lob5, hb5, ne_bk_b5, hsl, hTh, hib6, lob6, hb6, ne_b5_b6, lob13, ne_b5_b13, ne_b6_b13, hv2_8, hown, hts, hnob6, hnob5, trivial⟩
        exact R2.eff rfl hfin_ rfl (fun h_ => absurd h_ (by decide)) rfl
       ·refine ⟨trivial, fun ph_ hp_ H2 w hW hfl_ => ?_⟩
        obtain rfl := memN_one hp_
        replace hW : A2_6 H2 w := hW
        rw [hA2_6] at hW
        obtain ⟨hC, hib5, lob5, hb5, ne_bk_b5, hsl, hTh, hib6, lob6, hb6, ne_b5_b6, lob13, ne_b5_b13, ne_b6_b13, hv2_8, hown, hts, hnob6, hnob5, _⟩ := hW
        refine ⟨(some false), _, rfl, rfl, Ok1.mono (ok_call c19 rfl (Knows_own_is (W := ⟨false, false⟩) (known := (atomsT (selH hv l N)) ++ [hashT N]) (t := Tm.mk 1 (i : Int) []) (hash_b3 hN.1 hN.2 (by omega) (not_lt_bool hiln)) _ (hT0 _ _ (hC.below hw0.size (by simp)) hw0) (by simp [atomsT]; omega) (by simpa [atomsT] using hown) hts (IsT.sub (X := (b6 :: b5 :: oblk (H2 13))) (X' := []) (isT_atom _ _ _) (by simp)))) ?_⟩
        rintro _ w' ⟨rfl, hg_⟩
        have hch_ : Ch [] _ w' := Gr.ch hg_
        have hC := hC.trans' hch_ (fun z hz => .inr (absurd hz (by simp)))
        have hib5 := hch_.lt hib5
        have hb5 := Ch.blk0 hch_ hb5 (by first | assumption | (simp; done) | (simp <;> omega))
        have hsl : SlA w' (b6 :: b5 :: oblk (H2 13)) lvl ((selH hv l N).length) (cellsA (selH hv l N)) := SlA.mv hsl hch_ (by intro y hy; first | (simp at hy; done) | (simp at hy; subst hy; simp; done) | (simp [hy]; done)) (fun x hx => .inl hx)
        have hTh : IsT w' (b6 :: b5 :: oblk (H2 13)) (hashT N) [(vI 6), (vI 0), (vS bk 0 N capk)] := IsT.mv hch_ (by intro y hy; first | (simp at hy; done) | (simp at hy; subst hy; simp; done) | (simp [hy]; done)) (fun x hx => .inl hx) _ _ hTh
        have hib6 := hch_.lt hib6
        have hb6 := Ch.blk0 hch_ hb6 (by first | assumption | (simp; done) | (simp <;> omega))
        have hown := Own.mv hown hch_ (fun b_ hb_ => by first | (simp; done) | (intro hm_; simp at hm_; subst hm_; contradiction))
        have hts : IsTs w' (b6 :: b5 :: oblk (H2 13)) ((atomsT (selH hv l N)) ++ [hashT N]) ((cellsA (selH hv l N)) ++ [(vI 6), (vI 0), (vS bk 0 N capk)]) := IsTs.mv hch_ (by intro y hy; first | (simp at hy; done) | (simp at hy; subst hy; simp; done) | (simp [hy]; done)) (fun x hx => .inl hx) _ _ hts
        have hfin_ : A2_7 (updV H2 16 vf) w' := by rw [hA2_7]; exact ⟨hC, hib5, lob5, hb5, ne_bk_b5, hsl, hTh, hib6, lob6, hb6, ne_b5_b6, lob13, ne_b5_b13, ne_b6_b13, hv2_8, hown, hts, hnob6, hnob5, trivial⟩
        exact R2.eff rfl hfin_ rfl (fun h_ => absurd h_ (by decide)) rfl
       ·exact GOb.pureG Gr.refl ⟨rfl, trivial⟩ rfl rfl (fun _ => rfl) rfl rfl (fun _ _ => d_move rfl)
       ·exact GOb.pureG Gr.refl ⟨rfl, trivial⟩ rfl rfl (fun _ => rfl) rfl rfl (fun _ _ => d_move rfl)
       ·exact GOb.pureG Gr.refl trivial rfl rfl (fun _ => rfl) rfl rfl (fun _ _ => d_len_slice Tryd.underlying36 rfl)
       ·exact GOb.pureG Gr.refl trivial rfl rfl (fun _ => rfl) rfl rfl (fun _ _ => d_bool (c := false) (d_lss rfl rfl) (decide_eq_false hil))
       ·exact GOb.pureG Gr.refl trivial rfl rfl (fun _ => rfl) rfl rfl (fun _ _ => d_move rfl)
       ·exact GOb.skip ⟨rfl, trivial⟩ rfl rfl (fun _ => rfl) (by decide) rfl rfl (fun _ => rfl)
       ·exact GOb.skip ⟨rfl, trivial⟩ rfl rfl (fun _ => rfl) (by decide) rfl rfl (fun _ => rfl)
       ·exact GOb.skip trivial rfl rfl (fun _ => rfl) (by decide) rfl rfl (fun _ => rfl)
       ·exact GOb.skip trivial rfl rfl (fun _ => rfl) (by decide) rfl rfl (fun _ => rfl)
       ·exact GOb.pureG Gr.refl trivial rfl rfl (fun _ => rfl) rfl rfl (fun _ _ => d_pick (b := false) rfl rfl)
       ·exact GOb.pureG Gr.refl trivial rfl rfl (fun _ => rfl) rfl rfl (fun _ _ => d_bool (c := false) (d_neqB Tryd.underlying4 rfl rfl) (by simp))
       ·exact GOb.pure Gr.refl trivial rfl rfl rfl (fun _ _ => d_pick (b := false) rfl rfl)
      ·intro ac w H2 hW hF
       replace hW : A2_7 H2 w := hW
       rw [hA2_7] at hW
       obtain ⟨hC, hib5, lob5, hb5, ne_bk_b5, hsl, hTh, hib6, lob6, hb6, ne_b5_b6, lob13, ne_b5_b13, ne_b6_b13, hv2_8, hown, hts, hnob6, hnob5, _⟩ := hW
       clear hA2_0 A2_0 hA2_1 A2_1 hA2_2 A2_2 hA2_3 A2_3 hA2_4 A2_4 hA2_5 A2_5 hA2_6 A2_6 hA2_7 A2_7
       have hF := hF.sub (L' := [(0, (vI (N : Int))), (1, (Value.slice ad l cap)), (6, lvl), (9, (vp b5)), (10, (vp b6)), (11, (vI (i : Int))), (54, (vB (decide ((i : Int) < (N : Int))))), (85, vf)]) ⟨rfl, rfl, rfl, rfl, rfl, rfl, rfl, rfl, trivial⟩
       refine then_n ?_
       refine wp_cond_false (hF.eval rfl) ?_
       refine wp_skip ?_
       refine block_n ?_
       refine then_n ?_
       refine wp_region_lit ?_
       refine wl (d_move rfl) rfl hF (fun ac hF => ?_)
       refine wl (d_add rfl rfl (wrap_i64 (by omega) (by omega))) rfl hF (fun ac hF => ?_)
       refine wl (d_assign rfl) rfl hF (fun ac hF => ?_)
       refine wl_nil ?_
       refine then_n ?_
       refine ⟨_, ?_, i + 1, rfl, (by omega), hF.sub ⟨rfl, rfl, rfl, rfl, rfl, rfl, trivial⟩, ⟨hC, hib5, lob5, hb5, ne_bk_b5, (SlA.sub hsl (by intro x hx; simp only [List.mem_cons, List.not_mem_nil, or_false] at hx ⊢; rcases hx with h_ | h_ <;> simp [h_])), (IsT.sub hTh (by intro x hx; simp only [List.mem_cons, List.not_mem_nil, or_false] at hx ⊢; rcases hx with h_ | h_ <;> simp [h_])), hib6, lob6, hb6, ne_b5_b6, trivial⟩⟩
       omega
    ·have hlt2 := of_decide_eq_false h
     clear h
     refine wp_exit ?_
     refine then_exit ?_
     refine then_exit ?_
     refine block_exit ?_
     refine then_n ?_
     refine wp_seq ?_
     refine wp_region_lit ?_
     refine wlR (ok_call c15 rfl (awake_calls _ (hT0 _ _ (hC.below hw0.size (by simp)) hw0))) rfl hF ?_
     rintro _ w ac ⟨rfl, hg_⟩ hF
     have hch_ : Ch [] _ w := Gr.ch hg_
     have hC := hC.trans' hch_ (fun z hz => .inr (absurd hz (by simp)))
     have hib5 := hch_.lt hib5
     have hb5 := Ch.blk0 hch_ hb5 (by first | assumption | (simp; done) | (simp <;> omega))
     have hsl : SlA w (b6 :: b5 :: []) lvl ((selH hv l N).length) (cellsA (selH hv l N)) := SlA.mv hsl hch_ (by intro y hy; first | (simp at hy; done) | (simp at hy; subst hy; simp; done) | (simp [hy]; done)) (fun x hx => .inl hx)
     have hTh : IsT w (b6 :: b5 :: []) (hashT N) [(vI 6), (vI 0), (vS bk 0 N capk)] := IsT.mv hch_ (by intro y hy; first | (simp at hy; done) | (simp at hy; subst hy; simp; done) | (simp [hy]; done)) (fun x hx => .inl hx) _ _ hTh
     have hib6 := hch_.lt hib6
     have hb6 := Ch.blk0 hch_ hb6 (by first | assumption | (simp; done) | (simp <;> omega))
     refine wl (d_assign rfl) rfl hF (fun ac hF => ?_)
     refine wl_nil ?_
     refine then_n ?_
     refine wp_ret ?_
     refine body_ret hF (results1 Tryd.results5 (RV.tmp hF rfl)) ?_
     exact ⟨rfl, hC.gr⟩
end Go.Mi.Term
