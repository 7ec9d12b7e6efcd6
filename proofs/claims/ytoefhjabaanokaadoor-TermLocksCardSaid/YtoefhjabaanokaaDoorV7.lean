/- Walks: what the laws' own functions return. -/
import Derived.Test.YtoefhjabaanokaaDoorV5
import Derived.Test.YtoefhjabaanokaaDoorV6
set_option linter.unusedSimpArgs false
set_option linter.unusedVariables false
set_option linter.unnecessarySimpa false
namespace Go.Mi.Term
open Go.Mi Go.Proofs Go.RowKit
set_option linter.unusedVariables false
def hvR (z : Nat → Int) (n : Nat) : List Int := (List.range n).map fun r => z r % 20
def inH (hz : Nat → Int) (k : Int) (q : Nat) : Bool := (List.range q).any fun r => decide (hz r % 20 = k)
def opH (kz hz : Nat → Int) (lk lh m : Nat) : Bool := ((hvR kz lk).drop m).all fun k => inH hz k lh
section
variable {kz hz : Nat → Int} {lk lh j q : Nat} {k : Int}
theorem in_yes (h : true = inH hz k q) : true = inH hz k (q + 1) := by
 unfold inH at h ⊢
 rw [List.range_succ, List.any_append, ← h]; rfl
theorem in_no (h : false = inH hz k q) : decide (hz q % 20 = k) = inH hz k (q + 1) := by
 unfold inH at h ⊢
 rw [List.range_succ, List.any_append, ← h]; simp
theorem hvR_len (z : Nat → Int) (n : Nat) : (hvR z n).length = n := by simp [hvR]
theorem hvR_drop (h : j < lk) : (hvR kz lk).drop j = (kz j % 20) :: (hvR kz lk).drop (j + 1) := by
 have hj : j < (hvR kz lk).length := by rw [hvR_len]; exact h
 rw [List.drop_eq_getElem_cons hj]
 congr 1
 simp [hvR]
theorem op_next (h : j < lk) {op inn : Bool} (ho : op = opH kz hz lk lh (j + 1)) (hi : inn = inH hz (kz j % 20) lh) : (op && inn) = opH kz hz lk lh j := by
 unfold opH at ho ⊢
 rw [hvR_drop h, List.all_cons, ← ho, ← hi, Bool.and_comm]
theorem op_last : true = opH kz hz lk lh lk := by
 unfold opH
 rw [List.drop_of_length_le (by rw [hvR_len]; exact Nat.le_refl _)]; rfl
theorem lock_last {n : Int} : lockT ((hvR kz lk).drop lk) lk (atomT n) = atomT n := by
 rw [List.drop_of_length_le (by rw [hvR_len]; exact Nat.le_refl _)]; rfl
theorem lock_next (h : j < lk) {n : Int} : lockT ((hvR kz lk).drop j) j (atomT n) = Tm.mk 7 0 [Tm.mk 1 (kz j % 20) [], Tm.mk 8 0 [Tm.mk 1 (100 + (j : Int)) [], lockT ((hvR kz lk).drop (j + 1)) (j + 1) (atomT n)]] := by
 rw [hvR_drop h]; rfl
theorem lockL_len {ks : List Int} {n : Int} : (lockL ks (hvR hz q) n).length = q + 1 := by simp [lockL, hvR]
theorem lockL_succ {ks : List Int} {n : Int} : lockL ks (hvR hz (q + 1)) n = lockL ks (hvR hz q) n ++ [Tm.mk 1 (hz q % 20) []] := by
 simp [lockL, hvR, List.range_succ]
theorem hvR_mem {z : Nat → Int} {n : Nat} : ∀ k, k ∈ hvR z n → 0 ≤ k ∧ k < 20 := by
 intro k hk
 simp only [hvR, List.mem_map] at hk
 obtain ⟨r, _, rfl⟩ := hk
 omega
theorem lock_b1 {n : Int} (hl : lk ≤ 10) (hn : 2000 ≤ n ∧ n ≤ 1000000) {op : Bool} (ho : op = opH kz hz lk lh 0) : op = true ↔ may (Tm.mk 1 n []) = true ∧ Der ⟨false, false⟩ (Kn (lockL (hvR kz lk) (hvR hz lh) n)) (nrm (Tm.mk 1 n [])) := by
 rw [nrm_atom, locks_know hvR_mem (by rw [hvR_len]; exact hl) hvR_mem hn, ho]
 simp only [may_atom (n := n) (by omega) (by omega), true_and]
 unfold opH inH
 rw [List.drop_zero, List.all_eq_true]
 constructor
 ·intro h k hk
  have := h k hk
  simp only [List.any_eq_true, List.mem_range, decide_eq_true_eq] at this
  obtain ⟨r, h1, h2⟩ := this
  simp only [hvR, List.mem_map, List.mem_range]
  exact ⟨r, h1, h2⟩
 ·intro h k hk
  have := h k hk
  simp only [hvR, List.mem_map, List.mem_range] at this
  simp only [List.any_eq_true, List.mem_range, decide_eq_true_eq]
  exact this
theorem lock_b2 {n : Int} (hl : lk ≤ 10) (hn : 2000 ≤ n ∧ n ≤ 1000000) {i : Nat} (hi : i < lk) : false = true ↔ may (Tm.mk 1 (100 + (i : Int)) []) = true ∧ Der ⟨false, false⟩ (Kn (lockL (hvR kz lk) (hvR hz lh) n)) (nrm (Tm.mk 1 (100 + (i : Int)) [])) := by
 rw [nrm_atom]
 simp only [Bool.false_eq_true, false_iff, not_and]
 intro _
 exact locks_sign hvR_mem (by rw [hvR_len]; exact hl) hvR_mem hn (by omega)
end

set_option maxRecDepth 100000 in
set_option maxHeartbeats 4000000 in
theorem locks_walk {sec : Int} {adk adh : Option Addr} {lk ck lh ch bk ok bh oh : Nat} {kz hz : Nat → Int} (hs63 : -9223372036854775808 ≤ sec ∧ sec ≤ 9223372036854775807) (hlk63 : lk ≤ 9223372036854775807) (hlh63 : lh ≤ 9223372036854775807) (hkb : ∀ j, j < lk → -9223372036854775808 ≤ kz j ∧ kz j ≤ 9223372036854775807) (hhb : ∀ j, j < lh → -9223372036854775808 ≤ hz j ∧ hz j ≤ 9223372036854775807) (w0 : World) (hw0 : T0 w0) (hkx : 0 < lk → adk = some ⟨bk, ok, none⟩ ∧ ∀ j, j < lk → w0.cell? ⟨bk, ok + j, none⟩ = some (.int .i64 (kz j))) (hhx : 0 < lh → adh = some ⟨bh, oh, none⟩ ∧ ∀ j, j < lh → w0.cell? ⟨bh, oh + j, none⟩ = some (.int .i64 (hz j))) : Calls Tryd.prog 3 (List.toArray [.slice adk lk ck, .slice adh lh ch, .int .i64 sec]) w0 (Ret fun v w' => v = .bool true ∧ Gr w0 w') := by
 refine calls_of Tryd.func3 rfl Tryd.ntmps3 rfl fun ac hF => ?_
 have hC : Ch [] w0 w0 := Ch.refl _ _
 have hF := hF.sub (L' := [(0, (Value.slice adk lk ck)), (1, (Value.slice adh lh ch)), (2, (vI sec))]) ⟨rfl, rfl, rfl, trivial⟩
 refine wp_seq ?_
 refine wp_region_lit ?_
 refine wl (d_assign rfl) rfl hF (fun ac hF => ?_)
 refine wl_nil ?_
 refine then_n ?_
 refine wp_seq ?_
 refine wp_seq ?_
 refine wp_region_lit ?_
 refine wl (d_move rfl) rfl hF (fun ac hF => ?_)
 refine wl (d_len_slice Tryd.underlying22 rfl) rfl hF (fun ac hF => ?_)
 by_cases hk10_ : 10 < (lk : Int)
 ·have hdec_ : decide (10 < (lk : Int)) = true := decide_eq_true hk10_
  have hdec_hk10_ := hdec_
  refine wl (d_bool (c := true) (d_gtr rfl rfl) (hdec_hk10_)) rfl hF (fun ac hF => ?_)
  refine wl (d_move rfl) rfl hF (fun ac hF => ?_)
  refine wlgs (c := true) rfl rfl rfl hF (fun ac hF => ?_)
  refine wlgs (c := true) rfl rfl rfl hF (fun ac hF => ?_)
  refine wlgs (c := true) rfl rfl rfl hF (fun ac hF => ?_)
  refine wl (d_pick (b := true) rfl rfl) rfl hF (fun ac hF => ?_)
  refine wl (d_move rfl) rfl hF (fun ac hF => ?_)
  refine wlgs (c := true) rfl rfl rfl hF (fun ac hF => ?_)
  refine wlgs (c := true) rfl rfl rfl hF (fun ac hF => ?_)
  refine wl (d_pick (b := true) rfl rfl) rfl hF (fun ac hF => ?_)
  refine wl (d_move rfl) rfl hF (fun ac hF => ?_)
  refine wlgs (c := true) rfl rfl rfl hF (fun ac hF => ?_)
  refine wlgs (c := true) rfl rfl rfl hF (fun ac hF => ?_)
  refine wl (d_pick (b := true) rfl rfl) rfl hF (fun ac hF => ?_)
  refine wl_nil ?_
  refine then_n ?_
  refine wp_cond_true (hF.eval rfl) ?_
  refine wp_seq ?_
  refine wp_region_lit ?_
  refine wlR (ok_call c15 rfl (awake_calls _ (hT0 _ _ (hC.below hw0.size (by simp)) hw0))) rfl hF ?_
  rintro _ w ac ⟨rfl, hg_⟩ hF
  have hch_ : Ch [] _ w := Gr.ch hg_
  have hC := hC.trans' hch_ (fun z hz => .inr (absurd hz (by simp)))
  refine wl (d_assign rfl) rfl hF (fun ac hF => ?_)
  refine wl_nil ?_
  refine then_n ?_
  refine wp_ret ?_
  refine then_ret ?_
  refine body_ret hF (results1 Tryd.results3 (RV.tmp hF rfl)) ?_
  exact ⟨rfl, hC.gr⟩
 ·have hdec_ : decide (10 < (lk : Int)) = false := decide_eq_false hk10_
  have hdec_hk10_ := hdec_
  have hk10 : lk ≤ 10 := by omega
  refine wl (d_bool (c := false) (d_gtr rfl rfl) (hdec_hk10_)) rfl hF (fun ac hF => ?_)
  refine wl (d_move rfl) rfl hF (fun ac hF => ?_)
  refine wlg rfl (d_move rfl) rfl hF (fun ac hF => ?_)
  refine wlg rfl (d_len_slice Tryd.underlying22 rfl) rfl hF (fun ac hF => ?_)
  by_cases hh10_ : 10 < (lh : Int)
  ·have hdec_ : decide (10 < (lh : Int)) = true := decide_eq_true hh10_
   have hdec_hh10_ := hdec_
   refine wlg rfl (d_bool (c := true) (d_gtr rfl rfl) (hdec_hh10_)) rfl hF (fun ac hF => ?_)
   refine wl (d_pick (b := false) rfl rfl) rfl hF (fun ac hF => ?_)
   refine wl (d_move rfl) rfl hF (fun ac hF => ?_)
   refine wlgs (c := true) rfl rfl rfl hF (fun ac hF => ?_)
   refine wlgs (c := true) rfl rfl rfl hF (fun ac hF => ?_)
   refine wl (d_pick (b := true) rfl rfl) rfl hF (fun ac hF => ?_)
   refine wl (d_move rfl) rfl hF (fun ac hF => ?_)
   refine wlgs (c := true) rfl rfl rfl hF (fun ac hF => ?_)
   refine wlgs (c := true) rfl rfl rfl hF (fun ac hF => ?_)
   refine wl (d_pick (b := true) rfl rfl) rfl hF (fun ac hF => ?_)
   refine wl_nil ?_
   refine then_n ?_
   refine wp_cond_true (hF.eval rfl) ?_
   refine wp_seq ?_
   refine wp_region_lit ?_
   refine wlR (ok_call c15 rfl (awake_calls _ (hT0 _ _ (hC.below hw0.size (by simp)) hw0))) rfl hF ?_
   rintro _ w ac ⟨rfl, hg_⟩ hF
   have hch_ : Ch [] _ w := Gr.ch hg_
   have hC := hC.trans' hch_ (fun z hz => .inr (absurd hz (by simp)))
   refine wl (d_assign rfl) rfl hF (fun ac hF => ?_)
   refine wl_nil ?_
   refine then_n ?_
   refine wp_ret ?_
   refine then_ret ?_
   refine body_ret hF (results1 Tryd.results3 (RV.tmp hF rfl)) ?_
   exact ⟨rfl, hC.gr⟩
  ·have hdec_ : decide (10 < (lh : Int)) = false := decide_eq_false hh10_
   have hdec_hh10_ := hdec_
   have hh10 : lh ≤ 10 := by omega
   refine wlg rfl (d_bool (c := false) (d_gtr rfl rfl) (hdec_hh10_)) rfl hF (fun ac hF => ?_)
   refine wl (d_pick (b := false) rfl rfl) rfl hF (fun ac hF => ?_)
   refine wl (d_move rfl) rfl hF (fun ac hF => ?_)
   refine wlg rfl (d_move rfl) rfl hF (fun ac hF => ?_)
   by_cases hs0 : sec < 0
   ·have hdec_ : decide (sec < 0) = true := decide_eq_true hs0
    have hdec_hs0 := hdec_
    refine wlg rfl (d_bool (c := true) (d_lss rfl rfl) (hdec_hs0)) rfl hF (fun ac hF => ?_)
    refine wl (d_pick (b := false) rfl rfl) rfl hF (fun ac hF => ?_)
    refine wl (d_move rfl) rfl hF (fun ac hF => ?_)
    refine wlgs (c := true) rfl rfl rfl hF (fun ac hF => ?_)
    refine wlgs (c := true) rfl rfl rfl hF (fun ac hF => ?_)
    refine wl (d_pick (b := true) rfl rfl) rfl hF (fun ac hF => ?_)
    refine wl_nil ?_
    refine then_n ?_
    refine wp_cond_true (hF.eval rfl) ?_
    refine wp_seq ?_
    refine wp_region_lit ?_
    refine wlR (ok_call c15 rfl (awake_calls _ (hT0 _ _ (hC.below hw0.size (by simp)) hw0))) rfl hF ?_
    rintro _ w ac ⟨rfl, hg_⟩ hF
    have hch_ : Ch [] _ w := Gr.ch hg_
    have hC := hC.trans' hch_ (fun z hz => .inr (absurd hz (by simp)))
    refine wl (d_assign rfl) rfl hF (fun ac hF => ?_)
    refine wl_nil ?_
    refine then_n ?_
    refine wp_ret ?_
    refine then_ret ?_
    refine body_ret hF (results1 Tryd.results3 (RV.tmp hF rfl)) ?_
    exact ⟨rfl, hC.gr⟩
   ·have hdec_ : decide (sec < 0) = false := decide_eq_false hs0
    have hdec_hs0 := hdec_
    refine wlg rfl (d_bool (c := false) (d_lss rfl rfl) (hdec_hs0)) rfl hF (fun ac hF => ?_)
    refine wl (d_pick (b := false) rfl rfl) rfl hF (fun ac hF => ?_)
    refine wl (d_move rfl) rfl hF (fun ac hF => ?_)
    refine wlg rfl (d_move rfl) rfl hF (fun ac hF => ?_)
    by_cases hs1 : 1000 < sec
    ·have hdec_ : decide (1000 < sec) = true := decide_eq_true hs1
     have hdec_hs1 := hdec_
     refine wlg rfl (d_bool (c := true) (d_gtr rfl rfl) (hdec_hs1)) rfl hF (fun ac hF => ?_)
     refine wl (d_pick (b := false) rfl rfl) rfl hF (fun ac hF => ?_)
     refine wl_nil ?_
     refine then_n ?_
     refine wp_cond_true (hF.eval rfl) ?_
     refine wp_seq ?_
     refine wp_region_lit ?_
     refine wlR (ok_call c15 rfl (awake_calls _ (hT0 _ _ (hC.below hw0.size (by simp)) hw0))) rfl hF ?_
     rintro _ w ac ⟨rfl, hg_⟩ hF
     have hch_ : Ch [] _ w := Gr.ch hg_
     have hC := hC.trans' hch_ (fun z hz => .inr (absurd hz (by simp)))
     refine wl (d_assign rfl) rfl hF (fun ac hF => ?_)
     refine wl_nil ?_
     refine then_n ?_
     refine wp_ret ?_
     refine then_ret ?_
     refine body_ret hF (results1 Tryd.results3 (RV.tmp hF rfl)) ?_
     exact ⟨rfl, hC.gr⟩
    ·have hdec_ : decide (1000 < sec) = false := decide_eq_false hs1
     have hdec_hs1 := hdec_
     refine wlg rfl (d_bool (c := false) (d_gtr rfl rfl) (hdec_hs1)) rfl hF (fun ac hF => ?_)
     refine wl (d_pick (b := false) rfl rfl) rfl hF (fun ac hF => ?_)
     refine wl_nil ?_
     refine then_n ?_
     refine wp_cond_false (hF.eval rfl) ?_
     refine wp_skip ?_
     refine then_n ?_
     refine wp_seq ?_
     refine wp_region_lit ?_
     refine wl (d_move rfl) rfl hF (fun ac hF => ?_)
     refine wl (d_add rfl rfl (wrap_i64 (by omega) (by omega))) rfl hF (fun ac hF => ?_)
     refine wlR (ok_call c16 rfl (atom_calls _)) rfl hF ?_
     rintro _ w ac ⟨rfl, hg_⟩ hF
     have hch_ : Ch [] _ w := Gr.ch hg_
     have hC := hC.trans' hch_ (fun z hz => .inr (absurd hz (by simp)))
     refine wlR (ok_alloc z26) rfl hF ?_
     rintro _ w ac ⟨b1, rfl, hnb_⟩ hF
     have hch_ : Ch [] _ w := hnb_.ch
     have lo_ := hnb_.lo hC.size
     have hC := hC.trans' hch_ (fun z hz => .inr (absurd hz (by simp)))
     have hib1 : b1 < w.heap.size := hnb_.lt
     have lob1 : w0.heap.size ≤ b1 := lo_
     have hb1 : w.heap[b1]? = some (.cells #[(vI 0), (vI 0), vN] 26 (0, 0)) := hnb_.blk
     refine wl0R (ok_storeA (c' := #[(vI 1), (vI (2000 + sec)), vN]) sz26 rfl rfl rfl (fun v hv => by simp at hv; rcases hv with rfl | rfl | rfl <;> rfl) hb1 rfl) hF ?_
     rintro w ac hu_ hF
     have hch_ : Ch [b1] _ w := hu_.ch
     have hC := hC.trans' hch_ (fun z hz => .inr ((by simp at hz; subst hz; assumption)))
     have hib1 := hch_.lt hib1
     have hb1 : w.heap[b1]? = some (.cells #[(vI 1), (vI (2000 + sec)), vN] 26 (0, 0)) := hu_.blk
     refine wl_nil ?_
     have hTt : IsT w [b1] (lockT ((hvR kz lk).drop lk) lk (atomT (2000 + sec))) [(vI 1), (vI (2000 + sec)), vN] := by rw [lock_last]; exact isT_atom _ _ _
     refine then_n ?_
     refine wp_seq ?_
     refine wp_region_lit ?_
     refine wl (d_assign rfl) rfl hF (fun ac hF => ?_)
     refine wl_nil ?_
     refine then_n ?_
     refine wp_seq ?_
     refine wp_seq ?_
     refine wp_region_lit ?_
     refine wl (d_move rfl) rfl hF (fun ac hF => ?_)
     refine wl (d_len_slice Tryd.underlying22 rfl) rfl hF (fun ac hF => ?_)
     refine wl (d_sub rfl rfl (wrap_i64 (by omega) (by omega))) rfl hF (fun ac hF => ?_)
     refine wl (d_assign rfl) rfl hF (fun ac hF => ?_)
     refine wl_nil ?_
     refine then_n ?_
     refine wp_block ?_
     refine wp_loop_k (fun fu_ ac w => ∃ (m : Nat) (i : Int) (op : Bool) (kt nt : Int) (adt : Option Addr) (lt ct : Nat), fu_ = m + m ∧ (i = (m : Int) - 1) ∧ (m ≤ lk) ∧ (op = opH kz hz lk lh m) ∧ Frm ac 115 [(0, (Value.slice adk lk ck)), (1, (Value.slice adh lh ch)), (2, (vI sec)), (7, (vp b1)), (8, (vB op)), (9, (vI i))] ∧ (Ch [] w0 w) ∧ (b1 < w.heap.size) ∧ (w0.heap.size ≤ b1) ∧ (w.heap[b1]? = some (.cells #[(vI kt), (vI nt), (Value.slice adt lt ct)] 26 (0, 0))) ∧ (IsT w (b1 :: []) (lockT ((hvR kz lk).drop m) m (atomT (2000 + sec))) [(vI kt), (vI nt), (Value.slice adt lt ct)]) ∧ True) _ ⟨lk, _, true, _, _, _, _, _, rfl, rfl, (Nat.le_refl _), op_last, hF.sub ⟨rfl, rfl, rfl, rfl, rfl, rfl, trivial⟩, ⟨hC, hib1, lob1, hb1, hTt, trivial⟩⟩ ?_
     rintro _ ac w ⟨m, i, op, kt, nt, adt, lt, ct, rfl, him, hml, hop, hF, ⟨hC, hib1, lob1, hb1, hTt, _⟩⟩
     refine wp_seq ?_
     refine wp_seq ?_
     refine wp_region_lit ?_
     refine wl (d_move rfl) rfl hF (fun ac hF => ?_)
     refine wl (d_geq rfl rfl) rfl hF (fun ac hF => ?_)
     refine wl_nil ?_
     refine then_n ?_
     refine wp_if hF rfl (fun h => ?_) (fun h => ?_)
     ·have hge := of_decide_eq_true h
      clear h
      obtain ⟨j, rfl, rfl⟩ : ∃ j : Nat, i = (j : Int) ∧ m = j + 1 := ⟨m - 1, by omega, by omega⟩
      obtain ⟨haek, hkc⟩ := hkx (by omega)
      refine wp_skip ?_
      refine then_n ?_
      refine wp_seq ?_
      refine wp_block ?_
      refine wp_seq ?_
      refine wp_region_lit ?_
      refine wl (d_move rfl) rfl hF (fun ac hF => ?_)
      refine wl (d_move rfl) rfl hF (fun ac hF => ?_)
      refine wl (d_ixSQ (b := bk) (o := ok) (j := j) (q := ok + j) Tryd.underlying22 sz3 (by rw [← haek]; rfl) rfl rfl (by omega) rfl) rfl hF (fun ac hF => ?_)
      refine wl (d_load1 Tryd.underlying3 rfl rfl (old_cell (hC.drop (by simp)) (hkc j (by omega)))) rfl hF (fun ac hF => ?_)
      refine wlR (ok_call c17 rfl (Round_calls (by omega) (by first | exact hkb _ (by omega) | exact hhb _ (by omega)) _)) rfl hF ?_
      rintro _ w ac ⟨rfl, hg_⟩ hF
      have hch_ : Ch [] _ w := Gr.ch hg_
      have hC := hC.trans' hch_ (fun z hz => .inr (absurd hz (by simp)))
      have hib1 := hch_.lt hib1
      have hb1 := Ch.blk0 hch_ hb1 (by first | assumption | (simp; done) | (simp <;> omega))
      have hTt : IsT w (b1 :: []) (lockT ((hvR kz lk).drop (j + 1)) (j + 1) (atomT (2000 + sec))) [(vI kt), (vI nt), (Value.slice adt lt ct)] := IsT.mv hch_ (by intro y hy; first | (simp at hy; done) | (simp at hy; subst hy; simp; done) | (simp [hy]; done)) (fun x hx => .inl hx) _ _ hTt
      refine wl (d_assign rfl) rfl hF (fun ac hF => ?_)
      refine wl_nil ?_
      refine then_n ?_
      refine wp_seq ?_
      refine wp_region_lit ?_
      refine wl (d_assign rfl) rfl hF (fun ac hF => ?_)
      refine wl_nil ?_
      refine then_n ?_
      refine wp_seq ?_
      refine wp_seq ?_
      refine wp_region_lit ?_
      refine wl (d_assign rfl) rfl hF (fun ac hF => ?_)
      refine wl_nil ?_
      refine then_n ?_
      refine wp_block ?_
      refine wp_loop_k (fun fu_ ac w => ∃ (q : Nat) (inn : Bool), fu_ = lh - q ∧ (q ≤ lh) ∧ (inn = inH hz (kz j % 20) q) ∧ Frm ac 115 [(0, (Value.slice adk lk ck)), (1, (Value.slice adh lh ch)), (2, (vI sec)), (7, (vp b1)), (8, (vB op)), (9, (vI (j : Int))), (10, (vI ((kz j) % 20))), (11, (vB inn)), (12, (vI (q : Int)))] ∧ (Ch [] w0 w) ∧ (b1 < w.heap.size) ∧ (w0.heap.size ≤ b1) ∧ (w.heap[b1]? = some (.cells #[(vI kt), (vI nt), (Value.slice adt lt ct)] 26 (0, 0))) ∧ (IsT w (b1 :: []) (lockT ((hvR kz lk).drop (j + 1)) (j + 1) (atomT (2000 + sec))) [(vI kt), (vI nt), (Value.slice adt lt ct)]) ∧ True) _ ⟨0, false, rfl, (by omega), rfl, hF.sub ⟨rfl, rfl, rfl, rfl, rfl, rfl, rfl, rfl, rfl, trivial⟩, ⟨hC, hib1, lob1, hb1, hTt, trivial⟩⟩ ?_
      rintro _ ac w ⟨q, inn, rfl, hql, hin, hF, ⟨hC, hib1, lob1, hb1, hTt, _⟩⟩
      refine wp_seq ?_
      refine wp_seq ?_
      refine wp_region_lit ?_
      refine wl (d_move rfl) rfl hF (fun ac hF => ?_)
      refine wl (d_move rfl) rfl hF (fun ac hF => ?_)
      refine wl (d_len_slice Tryd.underlying22 rfl) rfl hF (fun ac hF => ?_)
      refine wl (d_lss rfl rfl) rfl hF (fun ac hF => ?_)
      refine wl_nil ?_
      refine then_n ?_
      refine wp_if hF rfl (fun h => ?_) (fun h => ?_)
      ·have hq2 := of_decide_eq_true h
       clear h
       obtain ⟨haeh, hhc⟩ := hhx (by omega)
       refine wp_skip ?_
       refine then_n ?_
       refine wp_seq ?_
       refine wp_block ?_
       refine wp_region_lit ?_
       cases inn
       ·skip
        refine wl (d_move rfl) rfl hF (fun ac hF => ?_)
        refine wl (d_move rfl) rfl hF (fun ac hF => ?_)
        refine wlg rfl (d_move rfl) rfl hF (fun ac hF => ?_)
        refine wlg rfl (d_move rfl) rfl hF (fun ac hF => ?_)
        refine wlg rfl (d_ixSQ (b := bh) (o := oh) (j := q) (q := oh + q) Tryd.underlying22 sz3 (by rw [← haeh]; rfl) rfl rfl (by omega) rfl) rfl hF (fun ac hF => ?_)
        refine wlg rfl (d_load1 Tryd.underlying3 rfl rfl (old_cell (hC.drop (by simp)) (hhc q (by omega)))) rfl hF (fun ac hF => ?_)
        refine wlgR rfl (ok_call c17 rfl (Round_calls (by omega) (by first | exact hkb _ (by omega) | exact hhb _ (by omega)) _)) rfl hF ?_
        rintro _ w ac ⟨rfl, hg_⟩ hF
        have hch_ : Ch [] _ w := Gr.ch hg_
        have hC := hC.trans' hch_ (fun z hz => .inr (absurd hz (by simp)))
        have hib1 := hch_.lt hib1
        have hb1 := Ch.blk0 hch_ hb1 (by first | assumption | (simp; done) | (simp <;> omega))
        have hTt : IsT w (b1 :: []) (lockT ((hvR kz lk).drop (j + 1)) (j + 1) (atomT (2000 + sec))) [(vI kt), (vI nt), (Value.slice adt lt ct)] := IsT.mv hch_ (by intro y hy; first | (simp at hy; done) | (simp at hy; subst hy; simp; done) | (simp [hy]; done)) (fun x hx => .inl hx) _ _ hTt
        refine wlg rfl (d_move rfl) rfl hF (fun ac hF => ?_)
        refine wlg rfl (d_eql rfl rfl) rfl hF (fun ac hF => ?_)
        refine wl (d_pick (b := false) rfl rfl) rfl hF (fun ac hF => ?_)
        refine wl (d_assign rfl) rfl hF (fun ac hF => ?_)
        refine wl_nil ?_
        refine block_n ?_
        refine then_n ?_
        refine wp_region_lit ?_
        refine wl (d_move rfl) rfl hF (fun ac hF => ?_)
        refine wl (d_add rfl rfl (wrap_i64 (by omega) (by omega))) rfl hF (fun ac hF => ?_)
        refine wl (d_assign rfl) rfl hF (fun ac hF => ?_)
        refine wl_nil ?_
        refine then_n ?_
        refine ⟨_, ?_, q + 1, _, rfl, (by omega), (by first | exact in_yes hin | exact in_no hin), hF.sub ⟨rfl, rfl, rfl, rfl, rfl, rfl, rfl, rfl, rfl, trivial⟩, ⟨hC, hib1, lob1, hb1, hTt, trivial⟩⟩
        omega
       ·skip
        refine wl (d_move rfl) rfl hF (fun ac hF => ?_)
        refine wl (d_move rfl) rfl hF (fun ac hF => ?_)
        refine wlgs (c := true) rfl rfl rfl hF (fun ac hF => ?_)
        refine wlgs (c := true) rfl rfl rfl hF (fun ac hF => ?_)
        refine wlgs (c := true) rfl rfl rfl hF (fun ac hF => ?_)
        refine wlgs (c := true) rfl rfl rfl hF (fun ac hF => ?_)
        refine wlgs (c := true) rfl rfl rfl hF (fun ac hF => ?_)
        refine wlgs (c := true) rfl rfl rfl hF (fun ac hF => ?_)
        refine wlgs (c := true) rfl rfl rfl hF (fun ac hF => ?_)
        refine wl (d_pick (b := true) rfl rfl) rfl hF (fun ac hF => ?_)
        refine wl (d_assign rfl) rfl hF (fun ac hF => ?_)
        refine wl_nil ?_
        refine block_n ?_
        refine then_n ?_
        refine wp_region_lit ?_
        refine wl (d_move rfl) rfl hF (fun ac hF => ?_)
        refine wl (d_add rfl rfl (wrap_i64 (by omega) (by omega))) rfl hF (fun ac hF => ?_)
        refine wl (d_assign rfl) rfl hF (fun ac hF => ?_)
        refine wl_nil ?_
        refine then_n ?_
        refine ⟨_, ?_, q + 1, _, rfl, (by omega), (by first | exact in_yes hin | exact in_no hin), hF.sub ⟨rfl, rfl, rfl, rfl, rfl, rfl, rfl, rfl, rfl, trivial⟩, ⟨hC, hib1, lob1, hb1, hTt, trivial⟩⟩
        omega
      ·have hq2 := of_decide_eq_false h
       clear h
       have hqe : lh = q := by omega
       subst hqe
       refine wp_exit ?_
       refine then_exit ?_
       refine then_exit ?_
       refine block_exit ?_
       refine then_n ?_
       refine wp_seq ?_
       refine wp_join (fun ac w => Frm ac 115 [(0, (Value.slice adk lk ck)), (1, (Value.slice adh lh ch)), (2, (vI sec)), (7, (vp b1)), (8, (vB (op && inn))), (9, (vI (j : Int))), (10, (vI ((kz j) % 20)))] ∧ (Ch [] w0 w) ∧ (b1 < w.heap.size) ∧ (w0.heap.size ≤ b1) ∧ (w.heap[b1]? = some (.cells #[(vI kt), (vI nt), (Value.slice adt lt ct)] 26 (0, 0))) ∧ (IsT w (b1 :: []) (lockT ((hvR kz lk).drop (j + 1)) (j + 1) (atomT (2000 + sec))) [(vI kt), (vI nt), (Value.slice adt lt ct)]) ∧ True) ?_ ?_
       rotate_left
       ·rintro ac w ⟨hF, ⟨hC, hib1, lob1, hb1, hTt, _⟩⟩
        obtain ⟨A1_0, hA1_0⟩ : ∃ A : (Nat → Value) → World → Prop, A = fun _ w => (Ch [] w0 w) ∧ (b1 < w.heap.size) ∧ (w0.heap.size ≤ b1) ∧ (w.heap[b1]? = some (.cells #[(vI kt), (vI nt), (Value.slice adt lt ct)] 26 (0, 0))) ∧ (IsT w (b1 :: []) (lockT ((hvR kz lk).drop (j + 1)) (j + 1) (atomT (2000 + sec))) [(vI kt), (vI nt), (Value.slice adt lt ct)]) ∧ True := ⟨_, rfl⟩
        obtain ⟨A1_1, hA1_1⟩ : ∃ A : (Nat → Value) → World → Prop, A = fun _ w => (Ch [] w0 w) ∧ (b1 < w.heap.size) ∧ (w0.heap.size ≤ b1) ∧ (w.heap[b1]? = some (.cells #[(vI kt), (vI nt), (Value.slice adt lt ct)] 26 (0, 0))) ∧ (IsT w (b1 :: []) (lockT ((hvR kz lk).drop (j + 1)) (j + 1) (atomT (2000 + sec))) [(vI kt), (vI nt), (Value.slice adt lt ct)]) ∧ True := ⟨_, rfl⟩
        obtain ⟨A1_2, hA1_2⟩ : ∃ A : (Nat → Value) → World → Prop, A = fun _ w => (Ch [] w0 w) ∧ (b1 < w.heap.size) ∧ (w0.heap.size ≤ b1) ∧ (w.heap[b1]? = some (.cells #[(vI kt), (vI nt), (Value.slice adt lt ct)] 26 (0, 0))) ∧ (IsT w (b1 :: []) (lockT ((hvR kz lk).drop (j + 1)) (j + 1) (atomT (2000 + sec))) [(vI kt), (vI nt), (Value.slice adt lt ct)]) ∧ True := ⟨_, rfl⟩
        obtain ⟨A1_3, hA1_3⟩ : ∃ A : (Nat → Value) → World → Prop, A = fun H1 w => (Ch [] w0 w) ∧ (b1 < w.heap.size) ∧ (w0.heap.size ≤ b1) ∧ (w.heap[b1]? = some (.cells #[(vI kt), (vI nt), (Value.slice adt lt ct)] 26 (0, 0))) ∧ (IsT w (b1 :: []) (lockT ((hvR kz lk).drop (j + 1)) (j + 1) (atomT (2000 + sec))) [(vI kt), (vI nt), (Value.slice adt lt ct)]) ∧ (IsT w (b1 :: []) (Tm.mk 8 0 [Tm.mk 1 (100 + (j : Int)) [], lockT ((hvR kz lk).drop (j + 1)) (j + 1) (atomT (2000 + sec))]) [(vI 8), (vI 0), (vS (blk (H1 6)) 0 2 2)]) ∧ (H1 6 = (Value.agg #[(vI 8), (vI 0), (vS (blk (H1 6)) 0 2 2)])) ∧ True := ⟨_, rfl⟩
        obtain ⟨A1_4, hA1_4⟩ : ∃ A : (Nat → Value) → World → Prop, A = fun H1 w => (Ch [] w0 w) ∧ (b1 < w.heap.size) ∧ (w0.heap.size ≤ b1) ∧ (w.heap[b1]? = some (.cells #[(vI kt), (vI nt), (Value.slice adt lt ct)] 26 (0, 0))) ∧ (IsT w (b1 :: []) (lockT ((hvR kz lk).drop (j + 1)) (j + 1) (atomT (2000 + sec))) [(vI kt), (vI nt), (Value.slice adt lt ct)]) ∧ (IsT w (b1 :: []) (Tm.mk 8 0 [Tm.mk 1 (100 + (j : Int)) [], lockT ((hvR kz lk).drop (j + 1)) (j + 1) (atomT (2000 + sec))]) [(vI 8), (vI 0), (vS (blk (H1 6)) 0 2 2)]) ∧ (H1 6 = (Value.agg #[(vI 8), (vI 0), (vS (blk (H1 6)) 0 2 2)])) ∧ (IsT w (b1 :: []) (Tm.mk 7 0 [Tm.mk 1 ((kz j) % 20) [], Tm.mk 8 0 [Tm.mk 1 (100 + (j : Int)) [], lockT ((hvR kz lk).drop (j + 1)) (j + 1) (atomT (2000 + sec))]]) [(vI 7), (vI 0), (vS (blk (H1 7)) 0 2 2)]) ∧ (H1 7 = (Value.agg #[(vI 7), (vI 0), (vS (blk (H1 7)) 0 2 2)])) ∧ True := ⟨_, rfl⟩
        obtain ⟨A1_5, hA1_5⟩ : ∃ A : (Nat → Value) → World → Prop, A = fun H1 w => (Ch [] w0 w) ∧ (b1 < w.heap.size) ∧ (w0.heap.size ≤ b1) ∧ (w.heap[b1]? = some (.cells #[(vI 7), (vI 0), (vS (blk (H1 7)) 0 2 2)] 26 (0, 0))) ∧ (IsT w (b1 :: []) (lockT ((hvR kz lk).drop (j + 1)) (j + 1) (atomT (2000 + sec))) [(vI kt), (vI nt), (Value.slice adt lt ct)]) ∧ (IsT w (b1 :: []) (Tm.mk 8 0 [Tm.mk 1 (100 + (j : Int)) [], lockT ((hvR kz lk).drop (j + 1)) (j + 1) (atomT (2000 + sec))]) [(vI 8), (vI 0), (vS (blk (H1 6)) 0 2 2)]) ∧ (H1 6 = (Value.agg #[(vI 8), (vI 0), (vS (blk (H1 6)) 0 2 2)])) ∧ (IsT w (b1 :: []) (Tm.mk 7 0 [Tm.mk 1 ((kz j) % 20) [], Tm.mk 8 0 [Tm.mk 1 (100 + (j : Int)) [], lockT ((hvR kz lk).drop (j + 1)) (j + 1) (atomT (2000 + sec))]]) [(vI 7), (vI 0), (vS (blk (H1 7)) 0 2 2)]) ∧ (H1 7 = (Value.agg #[(vI 7), (vI 0), (vS (blk (H1 7)) 0 2 2)])) ∧ True := ⟨_, rfl⟩
        refine region_hist mo (fun p_ H_ w_ => (([A1_0, A1_1, A1_2, A1_3, A1_4, A1_5] : List ((Nat → Value) → World → Prop)).getD p_ (fun _ _ => True)) H_ w_) [1, 4, 6, 7, 8] (rows := [hr_ [] [(10, (vI ((kz j) % 20)))] [0] (vI ((kz j) % 20)), hr_ [(0, 69)] [] [0] (Value.agg #[(vI 1), (vI ((kz j) % 20)), vN]), hr_ [] [(9, (vI (j : Int)))] [0, 1] (vI (j : Int)), hr_ [(2, 71)] [] [0, 1] (vI (100 + (j : Int))), hr_ [(3, 72)] [] [1] (Value.agg #[(vI 1), (vI (100 + (j : Int))), vN]), hr_ [] [(7, (vp b1))] [0, 1, 2] (Value.agg #[(vI kt), (vI nt), (Value.slice adt lt ct)]), ⟨[(4, 73), (5, 74)], [], [2], [6], fun H1 => H1 6, fun H1 K_ h_ => by simp only [h_ 6 (by simp)]⟩, ⟨[(1, 70), (6, 75)], [], [3], [7], fun H1 => H1 7, fun H1 K_ h_ => by simp only [h_ 7 (by simp)]⟩, ⟨[(7, 76)], [(7, (vp b1))], [4], [8], fun H1 => H1 8, fun H1 K_ h_ => by simp only [h_ 8 (by simp)]⟩]) (by kernel_rfl) hF (fun H_ => ?_) ?_ ?_
        ·have hch_ := Ch.drew w
         have hfin_ : A1_0 H_ { w with drawn := w.drawn + 1 } := by rw [hA1_0]; exact ⟨hC.trans' hch_ (fun z hz => .inr (absurd hz (by simp))), hch_.lt hib1, lob1, Ch.blk0 hch_ hb1 (by first | assumption | (simp; done) | (simp <;> omega)), IsT.mv hch_ (by intro y hy; first | (simp at hy; done) | (simp at hy; subst hy; simp; done) | (simp [hy]; done)) (fun x hx => .inl hx) _ _ hTt, trivial⟩
         exact hfin_
        ·refine ⟨?_, ?_, ?_, ?_, ?_, ?_, ?_, ?_, ?_, trivial⟩
         ·exact HOb.pure ⟨rfl, trivial⟩ rfl rfl (fun _ _ => d_move rfl)
         ·refine ⟨trivial, fun ph_ hp_ H1 w hW => ?_⟩
          obtain rfl := memN_one hp_
          replace hW : A1_0 H1 w := hW
          rw [hA1_0] at hW
          obtain ⟨hC, hib1, lob1, hb1, hTt, _⟩ := hW
          refine Ok1.mono (ok_call c16 rfl (atom_calls _)) ?_
          rintro _ w' ⟨rfl, hg_⟩
          have hch_ : Ch [] _ w' := Gr.ch hg_
          have hC := hC.trans' hch_ (fun z hz => .inr (absurd hz (by simp)))
          have hib1 := hch_.lt hib1
          have hb1 := Ch.blk0 hch_ hb1 (by first | assumption | (simp; done) | (simp <;> omega))
          have hTt : IsT w' (b1 :: []) (lockT ((hvR kz lk).drop (j + 1)) (j + 1) (atomT (2000 + sec))) [(vI kt), (vI nt), (Value.slice adt lt ct)] := IsT.mv hch_ (by intro y hy; first | (simp at hy; done) | (simp at hy; subst hy; simp; done) | (simp [hy]; done)) (fun x hx => .inl hx) _ _ hTt
          have hfin_ : A1_1 (updV H1 1 (Value.agg #[(vI 1), (vI ((kz j) % 20)), vN])) w' := by rw [hA1_1]; exact ⟨hC, hib1, lob1, hb1, hTt, trivial⟩
          exact fin_ rfl ⟨hfin_, rfl⟩
         ·exact HOb.pure ⟨rfl, trivial⟩ rfl rfl (fun _ _ => d_move rfl)
         ·refine ⟨trivial, fun ph_ hp_ H1 w hW => ?_⟩
          rcases memN_or hp_ with rfl | hp_
          ·have hW0 := hW
           replace hW : A1_0 H1 w := hW
           rw [hA1_0] at hW
           obtain ⟨hC, hib1, lob1, hb1, hTt, _⟩ := hW
           exact Det.ohc rfl hW0 (d_add rfl rfl (wrap_i64 (by omega) (by omega)))
          obtain rfl := memN_one hp_
          ·have hW0 := hW
           replace hW : A1_1 H1 w := hW
           rw [hA1_1] at hW
           obtain ⟨hC, hib1, lob1, hb1, hTt, _⟩ := hW
           exact Det.ohc rfl hW0 (d_add rfl rfl (wrap_i64 (by omega) (by omega)))
         ·refine ⟨trivial, fun ph_ hp_ H1 w hW => ?_⟩
          obtain rfl := memN_one hp_
          replace hW : A1_1 H1 w := hW
          rw [hA1_1] at hW
          obtain ⟨hC, hib1, lob1, hb1, hTt, _⟩ := hW
          refine Ok1.mono (ok_call c16 rfl (atom_calls _)) ?_
          rintro _ w' ⟨rfl, hg_⟩
          have hch_ : Ch [] _ w' := Gr.ch hg_
          have hC := hC.trans' hch_ (fun z hz => .inr (absurd hz (by simp)))
          have hib1 := hch_.lt hib1
          have hb1 := Ch.blk0 hch_ hb1 (by first | assumption | (simp; done) | (simp <;> omega))
          have hTt : IsT w' (b1 :: []) (lockT ((hvR kz lk).drop (j + 1)) (j + 1) (atomT (2000 + sec))) [(vI kt), (vI nt), (Value.slice adt lt ct)] := IsT.mv hch_ (by intro y hy; first | (simp at hy; done) | (simp at hy; subst hy; simp; done) | (simp [hy]; done)) (fun x hx => .inl hx) _ _ hTt
          have hfin_ : A1_2 (updV H1 4 (Value.agg #[(vI 1), (vI (100 + (j : Int))), vN])) w' := by rw [hA1_2]; exact ⟨hC, hib1, lob1, hb1, hTt, trivial⟩
          exact fin_ rfl ⟨hfin_, rfl⟩
         ·refine ⟨⟨rfl, trivial⟩, fun ph_ hp_ H1 w hW => ?_⟩
          rcases memN_or hp_ with rfl | hp_
          ·have hW0 := hW
           replace hW : A1_0 H1 w := hW
           rw [hA1_0] at hW
           obtain ⟨hC, hib1, lob1, hb1, hTt, _⟩ := hW
           exact Det.ohc rfl hW0 (d_loadC Tryd.underlying26 rfl sz26 rfl ((At.of_blk hb1)) rfl)
          rcases memN_or hp_ with rfl | hp_
          ·have hW0 := hW
           replace hW : A1_1 H1 w := hW
           rw [hA1_1] at hW
           obtain ⟨hC, hib1, lob1, hb1, hTt, _⟩ := hW
           exact Det.ohc rfl hW0 (d_loadC Tryd.underlying26 rfl sz26 rfl ((At.of_blk hb1)) rfl)
          obtain rfl := memN_one hp_
          ·have hW0 := hW
           replace hW : A1_2 H1 w := hW
           rw [hA1_2] at hW
           obtain ⟨hC, hib1, lob1, hb1, hTt, _⟩ := hW
           exact Det.ohc rfl hW0 (d_loadC Tryd.underlying26 rfl sz26 rfl ((At.of_blk hb1)) rfl)
         ·refine ⟨trivial, fun ph_ hp_ H1 w hW => ?_⟩
          obtain rfl := memN_one hp_
          replace hW : A1_2 H1 w := hW
          rw [hA1_2] at hW
          obtain ⟨hC, hib1, lob1, hb1, hTt, _⟩ := hW
          have hX_ : ∀ x, x ∈ (b1 :: []) → x < w.heap.size := by
           intro x hx
           simp only [List.mem_cons, List.not_mem_nil, or_false] at hx
           rcases hx with rfl
           ·exact hib1
          refine Ok1.mono (ok_call c18 rfl (two_calls (X := (b1 :: [])) (a := Tm.mk 1 (100 + (j : Int)) []) (b := lockT ((hvR kz lk).drop (j + 1)) (j + 1) (atomT (2000 + sec))) _ hX_ (isT_atom _ _ _) hTt)) ?_
          rintro _ w' ⟨g2, rfl, hTg2, hg_⟩
          have hch_ : Ch [] _ w' := Gr.ch hg_
          have hC := hC.trans' hch_ (fun z hz => .inr (absurd hz (by simp)))
          have hib1 := hch_.lt hib1
          have hb1 := Ch.blk0 hch_ hb1 (by first | assumption | (simp; done) | (simp <;> omega))
          have hTt : IsT w' (b1 :: []) (lockT ((hvR kz lk).drop (j + 1)) (j + 1) (atomT (2000 + sec))) [(vI kt), (vI nt), (Value.slice adt lt ct)] := IsT.mv hch_ (by intro y hy; first | (simp at hy; done) | (simp at hy; subst hy; simp; done) | (simp [hy]; done)) (fun x hx => .inl hx) _ _ hTt
          have hfin_ : A1_3 (updV H1 6 (Value.agg #[(vI 8), (vI 0), (vS g2 0 2 2)])) w' := by rw [hA1_3]; exact ⟨hC, hib1, lob1, hb1, hTt, hTg2, rfl, trivial⟩
          exact fin_ rfl ⟨hfin_, rfl⟩
         ·refine ⟨trivial, fun ph_ hp_ H1 w hW => ?_⟩
          obtain rfl := memN_one hp_
          replace hW : A1_3 H1 w := hW
          rw [hA1_3] at hW
          obtain ⟨hC, hib1, lob1, hb1, hTt, hTg2, hv1_6, _⟩ := hW
          have hX_ : ∀ x, x ∈ (b1 :: []) → x < w.heap.size := by
           intro x hx
           simp only [List.mem_cons, List.not_mem_nil, or_false] at hx
           rcases hx with rfl
           ·exact hib1
          refine Ok1.sub (L' := [(70, (Value.agg #[(vI 1), (vI ((kz j) % 20)), vN])), (75, (Value.agg #[(vI 8), (vI 0), (vS (blk (H1 6)) 0 2 2)]))]) ⟨rfl, congrArg some hv1_6, trivial⟩ (Ok1.mono (ok_call c18 rfl (two_calls (X := (b1 :: [])) (a := Tm.mk 1 ((kz j) % 20) []) (b := Tm.mk 8 0 [Tm.mk 1 (100 + (j : Int)) [], lockT ((hvR kz lk).drop (j + 1)) (j + 1) (atomT (2000 + sec))]) _ hX_ (isT_atom _ _ _) hTg2)) ?_)
          rintro _ w' ⟨g3, rfl, hTg3, hg_⟩
          have hch_ : Ch [] _ w' := Gr.ch hg_
          have hC := hC.trans' hch_ (fun z hz => .inr (absurd hz (by simp)))
          have hib1 := hch_.lt hib1
          have hb1 := Ch.blk0 hch_ hb1 (by first | assumption | (simp; done) | (simp <;> omega))
          have hTt : IsT w' (b1 :: []) (lockT ((hvR kz lk).drop (j + 1)) (j + 1) (atomT (2000 + sec))) [(vI kt), (vI nt), (Value.slice adt lt ct)] := IsT.mv hch_ (by intro y hy; first | (simp at hy; done) | (simp at hy; subst hy; simp; done) | (simp [hy]; done)) (fun x hx => .inl hx) _ _ hTt
          have hTg2 : IsT w' (b1 :: []) (Tm.mk 8 0 [Tm.mk 1 (100 + (j : Int)) [], lockT ((hvR kz lk).drop (j + 1)) (j + 1) (atomT (2000 + sec))]) [(vI 8), (vI 0), (vS (blk (H1 6)) 0 2 2)] := IsT.mv hch_ (by intro y hy; first | (simp at hy; done) | (simp at hy; subst hy; simp; done) | (simp [hy]; done)) (fun x hx => .inl hx) _ _ hTg2
          have hfin_ : A1_4 (updV H1 7 (Value.agg #[(vI 7), (vI 0), (vS g3 0 2 2)])) w' := by rw [hA1_4]; exact ⟨hC, hib1, lob1, hb1, hTt, hTg2, hv1_6, hTg3, rfl, trivial⟩
          exact fin_ rfl ⟨hfin_, rfl⟩
         ·refine ⟨⟨rfl, trivial⟩, fun ph_ hp_ H1 w hW => ?_⟩
          obtain rfl := memN_one hp_
          replace hW : A1_4 H1 w := hW
          rw [hA1_4] at hW
          obtain ⟨hC, hib1, lob1, hb1, hTt, hTg2, hv1_6, hTg3, hv1_7, _⟩ := hW
          refine Ok1.sub (L' := [(7, (vp b1)), (76, (Value.agg #[(vI 7), (vI 0), (vS (blk (H1 7)) 0 2 2)]))]) ⟨rfl, congrArg some hv1_7, trivial⟩ (Ok1.mono (ok_storeA (c' := #[(vI 7), (vI 0), (vS (blk (H1 7)) 0 2 2)]) sz26 rfl rfl rfl (fun v hv => by simp at hv; rcases hv with rfl | rfl | rfl <;> rfl) hb1 rfl) ?_)
          rintro v_ w' hu_
          have hch_ : Ch [b1] _ w' := hu_.ch
          have hC := hC.trans' hch_ (fun z hz => .inr ((by simp at hz; subst hz; assumption)))
          have hib1 := hch_.lt hib1
          have hTt : IsT w' (b1 :: []) (lockT ((hvR kz lk).drop (j + 1)) (j + 1) (atomT (2000 + sec))) [(vI kt), (vI nt), (Value.slice adt lt ct)] := IsT.mv hch_ (by intro y hy; first | (simp at hy; done) | (simp at hy; subst hy; simp; done) | (simp [hy]; done)) (fun x hx => .inl hx) _ _ hTt
          have hTg2 : IsT w' (b1 :: []) (Tm.mk 8 0 [Tm.mk 1 (100 + (j : Int)) [], lockT ((hvR kz lk).drop (j + 1)) (j + 1) (atomT (2000 + sec))]) [(vI 8), (vI 0), (vS (blk (H1 6)) 0 2 2)] := IsT.mv hch_ (by intro y hy; first | (simp at hy; done) | (simp at hy; subst hy; simp; done) | (simp [hy]; done)) (fun x hx => .inl hx) _ _ hTg2
          have hTg3 : IsT w' (b1 :: []) (Tm.mk 7 0 [Tm.mk 1 ((kz j) % 20) [], Tm.mk 8 0 [Tm.mk 1 (100 + (j : Int)) [], lockT ((hvR kz lk).drop (j + 1)) (j + 1) (atomT (2000 + sec))]]) [(vI 7), (vI 0), (vS (blk (H1 7)) 0 2 2)] := IsT.mv hch_ (by intro y hy; first | (simp at hy; done) | (simp at hy; subst hy; simp; done) | (simp [hy]; done)) (fun x hx => .inl hx) _ _ hTg3
          have hb1 : w'.heap[b1]? = some (.cells #[(vI 7), (vI 0), (vS (blk (H1 7)) 0 2 2)] 26 (0, 0)) := hu_.blk
          have hfin_ : A1_5 (updV H1 8 v_) w' := by rw [hA1_5]; exact ⟨hC, hib1, lob1, hb1, hTt, hTg2, hv1_6, hTg3, hv1_7, trivial⟩
          exact fin_ rfl ⟨hfin_, rfl⟩
        ·intro ac w H1 hW hF
         replace hW : A1_5 H1 w := hW
         rw [hA1_5] at hW
         obtain ⟨hC, hib1, lob1, hb1, hTt, hTg2, hv1_6, hTg3, hv1_7, _⟩ := hW
         clear hA1_0 A1_0 hA1_1 A1_1 hA1_2 A1_2 hA1_3 A1_3 hA1_4 A1_4 hA1_5 A1_5
         have hF := hF.sub (L' := [(0, (Value.slice adk lk ck)), (1, (Value.slice adh lh ch)), (2, (vI sec)), (7, (vp b1)), (8, (vB (op && inn))), (9, (vI (j : Int))), (10, (vI ((kz j) % 20)))]) ⟨rfl, rfl, rfl, rfl, rfl, rfl, rfl, trivial⟩
         have hTn : IsT w [b1] (lockT ((hvR kz lk).drop j) j (atomT (2000 + sec))) [(vI 7), (vI 0), (vS (blk (H1 7)) 0 2 2)] := by rw [lock_next (by omega)]; exact hTg3
         refine block_n ?_
         refine then_n ?_
         refine wp_region_lit ?_
         refine wl (d_move rfl) rfl hF (fun ac hF => ?_)
         refine wl (d_sub rfl rfl (wrap_i64 (by omega) (by omega))) rfl hF (fun ac hF => ?_)
         refine wl (d_assign rfl) rfl hF (fun ac hF => ?_)
         refine wl_nil ?_
         refine then_n ?_
         refine ⟨_, ?_, j, _, _, _, _, _, _, _, rfl, rfl, (by omega), (op_next (by omega) hop hin), hF.sub ⟨rfl, rfl, rfl, rfl, rfl, rfl, trivial⟩, ⟨hC, hib1, lob1, hb1, hTn, trivial⟩⟩
         omega
       cases op
       ·skip
        refine wp_region_lit ?_
        refine wl (d_move rfl) rfl hF (fun ac hF => ?_)
        refine wl (d_move rfl) rfl hF (fun ac hF => ?_)
        refine wlgs (c := false) rfl rfl rfl hF (fun ac hF => ?_)
        refine wl (d_pick (b := false) rfl rfl) rfl hF (fun ac hF => ?_)
        refine wl (d_assign rfl) rfl hF (fun ac hF => ?_)
        refine wl_nil ?_
        refine then_n ?_
        exact ⟨hF.sub ⟨rfl, rfl, rfl, rfl, rfl, rfl, rfl, trivial⟩, ⟨hC, hib1, lob1, hb1, hTt, trivial⟩⟩
       ·skip
        refine wp_region_lit ?_
        refine wl (d_move rfl) rfl hF (fun ac hF => ?_)
        refine wl (d_move rfl) rfl hF (fun ac hF => ?_)
        refine wlg rfl (d_move rfl) rfl hF (fun ac hF => ?_)
        refine wl (d_pick (b := true) rfl rfl) rfl hF (fun ac hF => ?_)
        refine wl (d_assign rfl) rfl hF (fun ac hF => ?_)
        refine wl_nil ?_
        refine then_n ?_
        exact ⟨hF.sub ⟨rfl, rfl, rfl, rfl, rfl, rfl, rfl, trivial⟩, ⟨hC, hib1, lob1, hb1, hTt, trivial⟩⟩
     ·have hge := of_decide_eq_false h
      clear h
      obtain rfl : m = 0 := by omega
      refine wp_exit ?_
      refine then_exit ?_
      refine then_exit ?_
      refine block_exit ?_
      refine then_n ?_
      refine wp_seq ?_
      refine wp_region_lit ?_
      refine wl (d_loadC Tryd.underlying26 rfl sz26 rfl ((At.of_blk hb1)) rfl) rfl hF (fun ac hF => ?_)
      refine wlR (ok_buildSlice (cells := #[(vI kt), (vI nt), (Value.slice adt lt ct)]) Tryd.underlying24 zz26 rfl (by decide) (by decide) (by exact fillT1)) rfl hF ?_
      rintro _ w ac ⟨b4, rfl, hnb_⟩ hF
      have hch_ : Ch [] _ w := hnb_.ch
      have lo_ := hnb_.lo hC.size
      have ne_b1_b4 := hnb_.gt hib1
      have hTt_ := hTt
      have hC := hC.trans' hch_ (fun z hz => .inr (absurd hz (by simp)))
      have hib1 := hch_.lt hib1
      have hb1 := Ch.blk0 hch_ hb1 (by first | assumption | (simp; done) | (simp <;> omega))
      have hib4 : b4 < w.heap.size := hnb_.lt
      have lob4 : w0.heap.size ≤ b4 := lo_
      have hb4 : w.heap[b4]? = some (.cells #[(vI kt), (vI nt), (Value.slice adt lt ct)] 26 (0, 0)) := hnb_.blk
      have ne_b1_b4 : b1 < b4 := ne_b1_b4
      have hTt : IsT w (b4 :: b1 :: []) (lockT ((hvR kz lk).drop 0) 0 (atomT (2000 + sec))) [(vI kt), (vI nt), (Value.slice adt lt ct)] := IsT.mv hnb_.ch (by simp) (fun x hx => by rcases List.mem_cons.1 hx with rfl | hx; exact .inr (Nat.le_of_eq hnb_.num.symm); exact .inl hx) _ _ hTt_
      refine wl (d_assign rfl) rfl hF (fun ac hF => ?_)
      refine wl_nil ?_
      have hown : Own w w0.heap.size 26 3 (vS b4 0 1 1) 1 [(vI kt), (vI nt), (Value.slice adt lt ct)] := own_fresh (n := 1) (m := 3) hb4 rfl (by decide) lob4
      have hts : IsTs w (b1 :: oblk (vS b4 0 1 1)) [lockT ((hvR kz lk).drop 0) 0 (atomT (2000 + sec))] [(vI kt), (vI nt), (Value.slice adt lt ct)] := (IsTs.one (IsT.sub hTt (by simp [oblk])))
      have hnob1 : b1 ∉ oblk (vS b4 0 1 1) := by simp [oblk] <;> omega
      refine then_n ?_
      refine wp_seq ?_
      refine wp_seq ?_
      refine wp_region_lit ?_
      refine wl (d_assign rfl) rfl hF (fun ac hF => ?_)
      refine wl_nil ?_
      refine then_n ?_
      refine wp_block ?_
      refine wp_loop_k (fun fu_ ac w => ∃ (q : Nat) (lv : Value) (xs : List Value), fu_ = lh - q ∧ (q ≤ lh) ∧ Frm ac 115 [(0, (Value.slice adk lk ck)), (1, (Value.slice adh lh ch)), (2, (vI sec)), (8, (vB op)), (13, lv), (14, (vI (q : Int)))] ∧ (Ch [] w0 w) ∧ (b1 < w.heap.size) ∧ (w0.heap.size ≤ b1) ∧ (w.heap[b1]? = some (.cells #[(vI kt), (vI nt), (Value.slice adt lt ct)] 26 (0, 0))) ∧ (b4 < w.heap.size) ∧ (w0.heap.size ≤ b4) ∧ (b1 < b4) ∧ (Own w w0.heap.size 26 3 lv (q + 1) xs) ∧ (IsTs w (b1 :: oblk lv) (lockL (hvR kz lk) (hvR hz q) (2000 + sec)) xs) ∧ (b1 ∉ oblk lv) ∧ True) _ ⟨0, _, _, rfl, (by omega), hF.sub ⟨rfl, rfl, rfl, rfl, rfl, rfl, trivial⟩, ⟨hC, hib1, lob1, hb1, hib4, lob4, ne_b1_b4, hown, hts, hnob1, trivial⟩⟩ ?_
      rintro _ ac w ⟨q, lv, xs, rfl, hql, hF, ⟨hC, hib1, lob1, hb1, hib4, lob4, ne_b1_b4, hown, hts, hnob1, _⟩⟩
      refine wp_seq ?_
      refine wp_seq ?_
      refine wp_region_lit ?_
      refine wl (d_move rfl) rfl hF (fun ac hF => ?_)
      refine wl (d_move rfl) rfl hF (fun ac hF => ?_)
      refine wl (d_len_slice Tryd.underlying22 rfl) rfl hF (fun ac hF => ?_)
      refine wl (d_lss rfl rfl) rfl hF (fun ac hF => ?_)
      refine wl_nil ?_
      refine then_n ?_
      refine wp_if hF rfl (fun h => ?_) (fun h => ?_)
      ·have hq3 := of_decide_eq_true h
       clear h
       obtain ⟨haeh, hhc⟩ := hhx (by omega)
       refine wp_skip ?_
       refine then_n ?_
       refine wp_seq ?_
       refine wp_block ?_
       refine wp_region_lit ?_
       refine wl (d_move rfl) rfl hF (fun ac hF => ?_)
       refine wl (d_move rfl) rfl hF (fun ac hF => ?_)
       refine wl (d_move rfl) rfl hF (fun ac hF => ?_)
       refine wl (d_ixSQ (b := bh) (o := oh) (j := q) (q := oh + q) Tryd.underlying22 sz3 (by rw [← haeh]; rfl) rfl rfl (by omega) rfl) rfl hF (fun ac hF => ?_)
       refine wl (d_load1 Tryd.underlying3 rfl rfl (old_cell (hC.drop (by simp)) (hhc q (by omega)))) rfl hF (fun ac hF => ?_)
       refine wlR (ok_call c17 rfl (Round_calls (by omega) (by first | exact hkb _ (by omega) | exact hhb _ (by omega)) _)) rfl hF ?_
       rintro _ w ac ⟨rfl, hg_⟩ hF
       have hch_ : Ch [] _ w := Gr.ch hg_
       have hC := hC.trans' hch_ (fun z hz => .inr (absurd hz (by simp)))
       have hib1 := hch_.lt hib1
       have hb1 := Ch.blk0 hch_ hb1 (by first | assumption | (simp; done) | (simp <;> omega))
       have hib4 := hch_.lt hib4
       have hown := Own.mv hown hch_ (fun b_ hb_ => by first | (simp; done) | (intro hm_; simp at hm_; subst hm_; contradiction))
       have hts : IsTs w (b1 :: oblk lv) (lockL (hvR kz lk) (hvR hz q) (2000 + sec)) xs := IsTs.mv hch_ (by intro y hy; first | (simp at hy; done) | (simp at hy; subst hy; simp; done) | (simp [hy]; done)) (fun x hx => .inl hx) _ _ hts
       refine wlR (ok_call c16 rfl (atom_calls _)) rfl hF ?_
       rintro _ w ac ⟨rfl, hg_⟩ hF
       have hch_ : Ch [] _ w := Gr.ch hg_
       have hC := hC.trans' hch_ (fun z hz => .inr (absurd hz (by simp)))
       have hib1 := hch_.lt hib1
       have hb1 := Ch.blk0 hch_ hb1 (by first | assumption | (simp; done) | (simp <;> omega))
       have hib4 := hch_.lt hib4
       have hown := Own.mv hown hch_ (fun b_ hb_ => by first | (simp; done) | (intro hm_; simp at hm_; subst hm_; contradiction))
       have hts : IsTs w (b1 :: oblk lv) (lockL (hvR kz lk) (hvR hz q) (2000 + sec)) xs := IsTs.mv hch_ (by intro y hy; first | (simp at hy; done) | (simp at hy; subst hy; simp; done) | (simp [hy]; done)) (fun x hx => .inl hx) _ _ hts
       refine wlR (ok_buildSlice (cells := #[(vI 1), (vI ((hz q) % 20)), vN]) Tryd.underlying24 zz26 rfl (by decide) (by decide) (by exact fillT1)) rfl hF ?_
       rintro _ w ac ⟨b5, rfl, hnb_⟩ hF
       have hch_ : Ch [] _ w := hnb_.ch
       have lo_ := hnb_.lo hC.size
       have ne_b1_b5 := hnb_.gt hib1
       have hC := hC.trans' hch_ (fun z hz => .inr (absurd hz (by simp)))
       have hib1 := hch_.lt hib1
       have hb1 := Ch.blk0 hch_ hb1 (by first | assumption | (simp; done) | (simp <;> omega))
       have hib4 := hch_.lt hib4
       have hown := Own.mv hown hch_ (fun b_ hb_ => by first | (simp; done) | (intro hm_; simp at hm_; subst hm_; contradiction))
       have hts : IsTs w (b1 :: oblk lv) (lockL (hvR kz lk) (hvR hz q) (2000 + sec)) xs := IsTs.mv hch_ (by intro y hy; first | (simp at hy; done) | (simp at hy; subst hy; simp; done) | (simp [hy]; done)) (fun x hx => .inl hx) _ _ hts
       have hib5 : b5 < w.heap.size := hnb_.lt
       have lob5 : w0.heap.size ≤ b5 := lo_
       have hb5 : At w b5 0 [(vI 1), (vI ((hz q) % 20)), vN] := hnb_.at
       have ne_b1_b5 : b1 < b5 := ne_b1_b5
       have hown0_ := hown
       refine wlR (ok_appendm (m := 3) (k := 1) (b := b5) (o := 0) (news := [(vI 1), (vI ((hz q) % 20)), vN]) Tryd.underlying24 ii26 rfl (by decide) rfl rfl hown rfl hb5 (IsT.cells1 (isT_atom w [] _)) (by omega) (by unfold maxLen; omega) hC.size) rfl hF ?_
       rintro lv6 w ac ⟨hown, hch0_, hob⟩ hF
       have hch_ : Ch (oblk lv) _ w := hch0_
       have hxx_ : ∀ x, x ∈ (b1 :: oblk lv6) → x ∈ (b1 :: oblk lv) ∨ _ ≤ x := fun x hx => by
        simp only [List.mem_cons] at hx ⊢
        rcases hx with h_ | hx
        ·exact .inl (by simp [h_])
        ·rcases hob with hob | hob
         ·rw [hob] at hx; exact .inl (by simp [hx])
         ·rw [hob] at hx; simp at hx; exact .inr (Nat.le_of_eq hx.symm)
       have hnxb1_ := nin_ob hob hnob1 hib1
       have hC := hC.trans' hch_ (fun z hz => .inr ((Own.lt hown0_ z hz).1))
       have hib1 := hch_.lt hib1
       have hb1 := Ch.blk0 hch_ hb1 (by first | assumption | (simp; done) | (simp <;> omega))
       have hib4 := hch_.lt hib4
       have hts : IsTs w (b1 :: oblk lv6) ((lockL (hvR kz lk) (hvR hz q) (2000 + sec)) ++ [Tm.mk 1 ((hz q) % 20) []]) (xs ++ [(vI 1), (vI ((hz q) % 20)), vN]) := (IsTs.mv hch_ (fun y hy => by simp [hy]) hxx_ _ _ hts).app (IsTs.one (isT_atom _ _ _))
       have hnob1 : b1 ∉ oblk lv6 := hnxb1_
       refine wl (d_assign rfl) rfl hF (fun ac hF => ?_)
       refine wl_nil ?_
       refine block_n ?_
       refine then_n ?_
       refine wp_region_lit ?_
       refine wl (d_move rfl) rfl hF (fun ac hF => ?_)
       refine wl (d_add rfl rfl (wrap_i64 (by omega) (by omega))) rfl hF (fun ac hF => ?_)
       refine wl (d_assign rfl) rfl hF (fun ac hF => ?_)
       refine wl_nil ?_
       refine then_n ?_
       refine ⟨_, ?_, q + 1, _, _, rfl, (by omega), hF.sub ⟨rfl, rfl, rfl, rfl, rfl, rfl, trivial⟩, ⟨hC, hib1, lob1, hb1, hib4, lob4, ne_b1_b4, hown, (by rw [lockL_succ]; exact hts), hnob1, trivial⟩⟩
       omega
      ·have hq3 := of_decide_eq_false h
       clear h
       have hqe : lh = q := by omega
       subst hqe
       refine wp_exit ?_
       refine then_exit ?_
       refine then_exit ?_
       refine block_exit ?_
       refine then_n ?_
       refine wp_seq ?_
       refine wp_region_lit ?_
       refine wlR (ok_alloc z31) rfl hF ?_
       rintro _ w ac ⟨b7, rfl, hnb_⟩ hF
       have hch_ : Ch [] _ w := hnb_.ch
       have lo_ := hnb_.lo hC.size
       have ne_b1_b7 := hnb_.gt hib1
       have hC := hC.trans' hch_ (fun z hz => .inr (absurd hz (by simp)))
       have hib1 := hch_.lt hib1
       have hb1 := Ch.blk0 hch_ hb1 (by first | assumption | (simp; done) | (simp <;> omega))
       have hib4 := hch_.lt hib4
       have hown := Own.mv hown hch_ (fun b_ hb_ => by first | (simp; done) | (intro hm_; simp at hm_; subst hm_; contradiction))
       have hts : IsTs w (b1 :: oblk lv) (lockL (hvR kz lk) (hvR hz lh) (2000 + sec)) xs := IsTs.mv hch_ (by intro y hy; first | (simp at hy; done) | (simp at hy; subst hy; simp; done) | (simp [hy]; done)) (fun x hx => .inl hx) _ _ hts
       have hib7 : b7 < w.heap.size := hnb_.lt
       have lob7 : w0.heap.size ≤ b7 := lo_
       have hb7 : At w b7 0 [vf, vf] := hnb_.at
       have ne_b1_b7 : b1 < b7 := ne_b1_b7
       refine wl_nil ?_
       refine then_n ?_
       refine wp_seq ?_
       refine wp_seq ?_
       obtain ⟨A2_0, hA2_0⟩ : ∃ A : (Nat → Value) → World → Prop, A = fun _ w => (Ch [] w0 w) ∧ (b1 < w.heap.size) ∧ (w0.heap.size ≤ b1) ∧ (w.heap[b1]? = some (.cells #[(vI kt), (vI nt), (Value.slice adt lt ct)] 26 (0, 0))) ∧ (b4 < w.heap.size) ∧ (w0.heap.size ≤ b4) ∧ (b1 < b4) ∧ (Own w w0.heap.size 26 3 lv (lh + 1) xs) ∧ (IsTs w (b1 :: oblk lv) (lockL (hvR kz lk) (hvR hz lh) (2000 + sec)) xs) ∧ (b1 ∉ oblk lv) ∧ (b7 < w.heap.size) ∧ (w0.heap.size ≤ b7) ∧ (At w b7 0 [vf, vf]) ∧ (b1 < b7) ∧ True := ⟨_, rfl⟩
       obtain ⟨A2_1, hA2_1⟩ : ∃ A : (Nat → Value) → World → Prop, A = fun _ w => (Ch [] w0 w) ∧ (b1 < w.heap.size) ∧ (w0.heap.size ≤ b1) ∧ (w.heap[b1]? = some (.cells #[(vI kt), (vI nt), (Value.slice adt lt ct)] 26 (0, 0))) ∧ (b4 < w.heap.size) ∧ (w0.heap.size ≤ b4) ∧ (b1 < b4) ∧ (Own w w0.heap.size 26 3 lv (lh + 1) xs) ∧ (IsTs w (b1 :: oblk lv) (lockL (hvR kz lk) (hvR hz lh) (2000 + sec)) xs) ∧ (b1 ∉ oblk lv) ∧ (b7 < w.heap.size) ∧ (w0.heap.size ≤ b7) ∧ (At w b7 0 [vf, vf]) ∧ (b1 < b7) ∧ True := ⟨_, rfl⟩
       obtain ⟨A2_2, hA2_2⟩ : ∃ A : (Nat → Value) → World → Prop, A = fun _ w => (Ch [] w0 w) ∧ (b1 < w.heap.size) ∧ (w0.heap.size ≤ b1) ∧ (w.heap[b1]? = some (.cells #[(vI kt), (vI nt), (Value.slice adt lt ct)] 26 (0, 0))) ∧ (b4 < w.heap.size) ∧ (w0.heap.size ≤ b4) ∧ (b1 < b4) ∧ (Own w w0.heap.size 26 3 lv (lh + 1) xs) ∧ (IsTs w (b1 :: oblk lv) (lockL (hvR kz lk) (hvR hz lh) (2000 + sec)) xs) ∧ (b1 ∉ oblk lv) ∧ (b7 < w.heap.size) ∧ (w0.heap.size ≤ b7) ∧ (At w b7 0 [vf, vf]) ∧ (b1 < b7) ∧ True := ⟨_, rfl⟩
       refine region_hist mo (fun p_ H_ w_ => (([A2_0, A2_1, A2_2] : List ((Nat → Value) → World → Prop)).getD p_ (fun _ _ => True)) H_ w_) [4, 5] (rows := [hr_ [] [(15, (vp b7))] [0, 1] (Value.agg #[vf, vf]), hr_ [] [(13, lv)] [0, 1] lv, hr_ [] [(2, (vI sec))] [0] (vI sec), hr_ [(2, 96)] [] [0] (vI (2000 + sec)), hr_ [(3, 97)] [] [0] (Value.agg #[(vI 1), (vI (2000 + sec)), vN]), hr_ [(0, 94), (1, 95), (4, 98)] [] [1] (vB op), hr_ [] [(8, (vB op))] [0, 1, 2] (vB op), hr_ [(5, 99), (6, 100)] [] [2] vf]) (by kernel_rfl) hF (fun H_ => ?_) ?_ ?_
       ·have hch_ := Ch.drew w
        have hfin_ : A2_0 H_ { w with drawn := w.drawn + 1 } := by rw [hA2_0]; exact ⟨hC.trans' hch_ (fun z hz => .inr (absurd hz (by simp))), hch_.lt hib1, lob1, Ch.blk0 hch_ hb1 (by first | assumption | (simp; done) | (simp <;> omega)), hch_.lt hib4, lob4, ne_b1_b4, Own.mv hown hch_ (fun b_ hb_ => by first | (simp; done) | (intro hm_; simp at hm_; subst hm_; contradiction)), IsTs.mv hch_ (by intro y hy; first | (simp at hy; done) | (simp at hy; subst hy; simp; done) | (simp [hy]; done)) (fun x hx => .inl hx) _ _ hts, hnob1, hch_.lt hib7, lob7, hb7.mv hch_ (by first | assumption | (simp; done) | (simp <;> omega)), ne_b1_b7, trivial⟩
        exact hfin_
       ·refine ⟨?_, ?_, ?_, ?_, ?_, ?_, ?_, ?_, trivial⟩
        ·refine ⟨⟨rfl, trivial⟩, fun ph_ hp_ H2 w hW => ?_⟩
         rcases memN_or hp_ with rfl | hp_
         ·have hW0 := hW
          replace hW : A2_0 H2 w := hW
          rw [hA2_0] at hW
          obtain ⟨hC, hib1, lob1, hb1, hib4, lob4, ne_b1_b4, hown, hts, hnob1, hib7, lob7, hb7, ne_b1_b7, _⟩ := hW
          exact Det.ohc rfl hW0 (d_loadC Tryd.underlying31 rfl sz31 rfl (hb7) rfl)
         obtain rfl := memN_one hp_
         ·have hW0 := hW
          replace hW : A2_1 H2 w := hW
          rw [hA2_1] at hW
          obtain ⟨hC, hib1, lob1, hb1, hib4, lob4, ne_b1_b4, hown, hts, hnob1, hib7, lob7, hb7, ne_b1_b7, _⟩ := hW
          exact Det.ohc rfl hW0 (d_loadC Tryd.underlying31 rfl sz31 rfl (hb7) rfl)
        ·exact HOb.pure ⟨rfl, trivial⟩ rfl rfl (fun _ _ => d_move rfl)
        ·exact HOb.pure ⟨rfl, trivial⟩ rfl rfl (fun _ _ => d_move rfl)
        ·refine ⟨trivial, fun ph_ hp_ H2 w hW => ?_⟩
         obtain rfl := memN_one hp_
         have hW0 := hW
         replace hW : A2_0 H2 w := hW
         rw [hA2_0] at hW
         obtain ⟨hC, hib1, lob1, hb1, hib4, lob4, ne_b1_b4, hown, hts, hnob1, hib7, lob7, hb7, ne_b1_b7, _⟩ := hW
         exact Det.ohc rfl hW0 (d_add rfl rfl (wrap_i64 (by omega) (by omega)))
        ·refine ⟨trivial, fun ph_ hp_ H2 w hW => ?_⟩
         obtain rfl := memN_one hp_
         replace hW : A2_0 H2 w := hW
         rw [hA2_0] at hW
         obtain ⟨hC, hib1, lob1, hb1, hib4, lob4, ne_b1_b4, hown, hts, hnob1, hib7, lob7, hb7, ne_b1_b7, _⟩ := hW
         refine Ok1.mono (ok_call c16 rfl (atom_calls _)) ?_
         rintro _ w' ⟨rfl, hg_⟩
         have hch_ : Ch [] _ w' := Gr.ch hg_
         have hC := hC.trans' hch_ (fun z hz => .inr (absurd hz (by simp)))
         have hib1 := hch_.lt hib1
         have hb1 := Ch.blk0 hch_ hb1 (by first | assumption | (simp; done) | (simp <;> omega))
         have hib4 := hch_.lt hib4
         have hown := Own.mv hown hch_ (fun b_ hb_ => by first | (simp; done) | (intro hm_; simp at hm_; subst hm_; contradiction))
         have hts : IsTs w' (b1 :: oblk lv) (lockL (hvR kz lk) (hvR hz lh) (2000 + sec)) xs := IsTs.mv hch_ (by intro y hy; first | (simp at hy; done) | (simp at hy; subst hy; simp; done) | (simp [hy]; done)) (fun x hx => .inl hx) _ _ hts
         have hib7 := hch_.lt hib7
         have hb7 := hb7.mv hch_ (by first | assumption | (simp; done) | (simp <;> omega))
         have hfin_ : A2_1 (updV H2 4 (Value.agg #[(vI 1), (vI (2000 + sec)), vN])) w' := by rw [hA2_1]; exact ⟨hC, hib1, lob1, hb1, hib4, lob4, ne_b1_b4, hown, hts, hnob1, hib7, lob7, hb7, ne_b1_b7, trivial⟩
         exact fin_ rfl ⟨hfin_, rfl⟩
        ·refine ⟨trivial, fun ph_ hp_ H2 w hW => ?_⟩
         obtain rfl := memN_one hp_
         replace hW : A2_1 H2 w := hW
         rw [hA2_1] at hW
         obtain ⟨hC, hib1, lob1, hb1, hib4, lob4, ne_b1_b4, hown, hts, hnob1, hib7, lob7, hb7, ne_b1_b7, _⟩ := hW
         refine Ok1.mono (ok_call c19 rfl (Knows_own_is (W := ⟨false, false⟩) (known := lockL (hvR kz lk) (hvR hz lh) (2000 + sec)) (t := Tm.mk 1 (2000 + sec) []) (lock_b1 hk10 (by omega) hop) _ (hT0 _ _ (hC.below hw0.size (by simp)) hw0) (by rw [lockL_len]; omega) (by rw [lockL_len]; exact hown) hts (IsT.sub (X := (b1 :: oblk lv)) (X' := []) (isT_atom _ _ _) (by simp)))) ?_
         rintro _ w' ⟨rfl, hg_⟩
         have hch_ : Ch [] _ w' := Gr.ch hg_
         have hC := hC.trans' hch_ (fun z hz => .inr (absurd hz (by simp)))
         have hib1 := hch_.lt hib1
         have hb1 := Ch.blk0 hch_ hb1 (by first | assumption | (simp; done) | (simp <;> omega))
         have hib4 := hch_.lt hib4
         have hown := Own.mv hown hch_ (fun b_ hb_ => by first | (simp; done) | (intro hm_; simp at hm_; subst hm_; contradiction))
         have hts : IsTs w' (b1 :: oblk lv) (lockL (hvR kz lk) (hvR hz lh) (2000 + sec)) xs := IsTs.mv hch_ (by intro y hy; first | (simp at hy; done) | (simp at hy; subst hy; simp; done) | (simp [hy]; done)) (fun x hx => .inl hx) _ _ hts
         have hib7 := hch_.lt hib7
         have hb7 := hb7.mv hch_ (by first | assumption | (simp; done) | (simp <;> omega))
         have hfin_ : A2_2 (updV H2 5 (vB op)) w' := by rw [hA2_2]; exact ⟨hC, hib1, lob1, hb1, hib4, lob4, ne_b1_b4, hown, hts, hnob1, hib7, lob7, hb7, ne_b1_b7, trivial⟩
         exact fin_ rfl ⟨hfin_, rfl⟩
        ·exact HOb.pure ⟨rfl, trivial⟩ rfl rfl (fun _ _ => d_move rfl)
        ·exact HOb.pure trivial rfl rfl (fun _ _ => d_bool (c := false) (d_neqB Tryd.underlying4 rfl rfl) (by simp))
       ·intro ac w H2 hW hF
        replace hW : A2_2 H2 w := hW
        rw [hA2_2] at hW
        obtain ⟨hC, hib1, lob1, hb1, hib4, lob4, ne_b1_b4, hown, hts, hnob1, hib7, lob7, hb7, ne_b1_b7, _⟩ := hW
        clear hA2_0 A2_0 hA2_1 A2_1 hA2_2 A2_2
        have hF := hF.sub (L' := [(0, (Value.slice adk lk ck)), (1, (Value.slice adh lh ch)), (2, (vI sec)), (8, (vB op)), (13, lv), (14, (vI (lh : Int))), (15, (vp b7)), (82, (vB (decide ((lh : Int) < (lh : Int))))), (101, vf)]) ⟨rfl, rfl, rfl, rfl, rfl, rfl, rfl, rfl, rfl, trivial⟩
        refine then_n ?_
        refine wp_cond_false (hF.eval rfl) ?_
        refine wp_skip ?_
        refine then_n ?_
        refine wp_seq ?_
        refine wp_seq ?_
        refine wp_region_lit ?_
        refine wl (d_assign rfl) rfl hF (fun ac hF => ?_)
        refine wl_nil ?_
        refine then_n ?_
        refine wp_block ?_
        refine wp_loop_k (fun fu_ ac w => ∃ (i : Nat), fu_ = lk - i ∧ (i ≤ lk) ∧ Frm ac 115 [(0, (Value.slice adk lk ck)), (13, lv), (15, (vp b7)), (16, (vI (i : Int)))] ∧ (Ch [] w0 w) ∧ (b1 < w.heap.size) ∧ (w0.heap.size ≤ b1) ∧ (w.heap[b1]? = some (.cells #[(vI kt), (vI nt), (Value.slice adt lt ct)] 26 (0, 0))) ∧ (b4 < w.heap.size) ∧ (w0.heap.size ≤ b4) ∧ (b1 < b4) ∧ (Own w w0.heap.size 26 3 lv (lh + 1) xs) ∧ (IsTs w (b1 :: oblk lv) (lockL (hvR kz lk) (hvR hz lh) (2000 + sec)) xs) ∧ (b1 ∉ oblk lv) ∧ (b7 < w.heap.size) ∧ (w0.heap.size ≤ b7) ∧ (At w b7 0 [vf, vf]) ∧ (b1 < b7) ∧ True) _ ⟨0, rfl, (by omega), hF.sub ⟨rfl, rfl, rfl, rfl, trivial⟩, ⟨hC, hib1, lob1, hb1, hib4, lob4, ne_b1_b4, hown, hts, hnob1, hib7, lob7, hb7, ne_b1_b7, trivial⟩⟩ ?_
        rintro _ ac w ⟨i, rfl, hil, hF, ⟨hC, hib1, lob1, hb1, hib4, lob4, ne_b1_b4, hown, hts, hnob1, hib7, lob7, hb7, ne_b1_b7, _⟩⟩
        refine wp_seq ?_
        refine wp_seq ?_
        refine wp_region_lit ?_
        refine wl (d_move rfl) rfl hF (fun ac hF => ?_)
        refine wl (d_move rfl) rfl hF (fun ac hF => ?_)
        refine wl (d_len_slice Tryd.underlying22 rfl) rfl hF (fun ac hF => ?_)
        refine wl (d_lss rfl rfl) rfl hF (fun ac hF => ?_)
        refine wl_nil ?_
        refine then_n ?_
        refine wp_if hF rfl (fun h => ?_) (fun h => ?_)
        ·have hi4 := of_decide_eq_true h
         clear h
         refine wp_skip ?_
         refine then_n ?_
         refine wp_seq ?_
         refine wp_block ?_
         refine wp_seq ?_
         obtain ⟨A3_0, hA3_0⟩ : ∃ A : (Nat → Value) → World → Prop, A = fun _ w => (Ch [] w0 w) ∧ (b1 < w.heap.size) ∧ (w0.heap.size ≤ b1) ∧ (w.heap[b1]? = some (.cells #[(vI kt), (vI nt), (Value.slice adt lt ct)] 26 (0, 0))) ∧ (b4 < w.heap.size) ∧ (w0.heap.size ≤ b4) ∧ (b1 < b4) ∧ (Own w w0.heap.size 26 3 lv (lh + 1) xs) ∧ (IsTs w (b1 :: oblk lv) (lockL (hvR kz lk) (hvR hz lh) (2000 + sec)) xs) ∧ (b1 ∉ oblk lv) ∧ (b7 < w.heap.size) ∧ (w0.heap.size ≤ b7) ∧ (At w b7 0 [vf, vf]) ∧ (b1 < b7) ∧ True := ⟨_, rfl⟩
         obtain ⟨A3_1, hA3_1⟩ : ∃ A : (Nat → Value) → World → Prop, A = fun _ w => (Ch [] w0 w) ∧ (b1 < w.heap.size) ∧ (w0.heap.size ≤ b1) ∧ (w.heap[b1]? = some (.cells #[(vI kt), (vI nt), (Value.slice adt lt ct)] 26 (0, 0))) ∧ (b4 < w.heap.size) ∧ (w0.heap.size ≤ b4) ∧ (b1 < b4) ∧ (Own w w0.heap.size 26 3 lv (lh + 1) xs) ∧ (IsTs w (b1 :: oblk lv) (lockL (hvR kz lk) (hvR hz lh) (2000 + sec)) xs) ∧ (b1 ∉ oblk lv) ∧ (b7 < w.heap.size) ∧ (w0.heap.size ≤ b7) ∧ (At w b7 0 [vf, vf]) ∧ (b1 < b7) ∧ True := ⟨_, rfl⟩
         obtain ⟨A3_2, hA3_2⟩ : ∃ A : (Nat → Value) → World → Prop, A = fun _ w => (Ch [] w0 w) ∧ (b1 < w.heap.size) ∧ (w0.heap.size ≤ b1) ∧ (w.heap[b1]? = some (.cells #[(vI kt), (vI nt), (Value.slice adt lt ct)] 26 (0, 0))) ∧ (b4 < w.heap.size) ∧ (w0.heap.size ≤ b4) ∧ (b1 < b4) ∧ (Own w w0.heap.size 26 3 lv (lh + 1) xs) ∧ (IsTs w (b1 :: oblk lv) (lockL (hvR kz lk) (hvR hz lh) (2000 + sec)) xs) ∧ (b1 ∉ oblk lv) ∧ (b7 < w.heap.size) ∧ (w0.heap.size ≤ b7) ∧ (At w b7 0 [vf, vf]) ∧ (b1 < b7) ∧ True := ⟨_, rfl⟩
         refine region_hist mo (fun p_ H_ w_ => (([A3_0, A3_1, A3_2] : List ((Nat → Value) → World → Prop)).getD p_ (fun _ _ => True)) H_ w_) [4, 5] (rows := [hr_ [] [(15, (vp b7))] [0, 1] (Value.agg #[vf, vf]), hr_ [] [(13, lv)] [0, 1] lv, hr_ [] [(16, (vI (i : Int)))] [0] (vI (i : Int)), hr_ [(2, 110)] [] [0] (vI (100 + (i : Int))), hr_ [(3, 111)] [] [0] (Value.agg #[(vI 1), (vI (100 + (i : Int))), vN]), hr_ [(0, 108), (1, 109), (4, 112)] [] [1] vf]) (by kernel_rfl) hF (fun H_ => ?_) ?_ ?_
         ·have hch_ := Ch.drew w
          have hfin_ : A3_0 H_ { w with drawn := w.drawn + 1 } := by rw [hA3_0]; exact ⟨hC.trans' hch_ (fun z hz => .inr (absurd hz (by simp))), hch_.lt hib1, lob1, Ch.blk0 hch_ hb1 (by first | assumption | (simp; done) | (simp <;> omega)), hch_.lt hib4, lob4, ne_b1_b4, Own.mv hown hch_ (fun b_ hb_ => by first | (simp; done) | (intro hm_; simp at hm_; subst hm_; contradiction)), IsTs.mv hch_ (by intro y hy; first | (simp at hy; done) | (simp at hy; subst hy; simp; done) | (simp [hy]; done)) (fun x hx => .inl hx) _ _ hts, hnob1, hch_.lt hib7, lob7, hb7.mv hch_ (by first | assumption | (simp; done) | (simp <;> omega)), ne_b1_b7, trivial⟩
          exact hfin_
         ·refine ⟨?_, ?_, ?_, ?_, ?_, ?_, trivial⟩
          ·refine ⟨⟨rfl, trivial⟩, fun ph_ hp_ H3 w hW => ?_⟩
           rcases memN_or hp_ with rfl | hp_
           ·have hW0 := hW
            replace hW : A3_0 H3 w := hW
            rw [hA3_0] at hW
            obtain ⟨hC, hib1, lob1, hb1, hib4, lob4, ne_b1_b4, hown, hts, hnob1, hib7, lob7, hb7, ne_b1_b7, _⟩ := hW
            exact Det.ohc rfl hW0 (d_loadC Tryd.underlying31 rfl sz31 rfl (hb7) rfl)
           obtain rfl := memN_one hp_
           ·have hW0 := hW
            replace hW : A3_1 H3 w := hW
            rw [hA3_1] at hW
            obtain ⟨hC, hib1, lob1, hb1, hib4, lob4, ne_b1_b4, hown, hts, hnob1, hib7, lob7, hb7, ne_b1_b7, _⟩ := hW
            exact Det.ohc rfl hW0 (d_loadC Tryd.underlying31 rfl sz31 rfl (hb7) rfl)
          ·exact HOb.pure ⟨rfl, trivial⟩ rfl rfl (fun _ _ => d_move rfl)
          ·exact HOb.pure ⟨rfl, trivial⟩ rfl rfl (fun _ _ => d_move rfl)
          ·refine ⟨trivial, fun ph_ hp_ H3 w hW => ?_⟩
           obtain rfl := memN_one hp_
           have hW0 := hW
           replace hW : A3_0 H3 w := hW
           rw [hA3_0] at hW
           obtain ⟨hC, hib1, lob1, hb1, hib4, lob4, ne_b1_b4, hown, hts, hnob1, hib7, lob7, hb7, ne_b1_b7, _⟩ := hW
           exact Det.ohc rfl hW0 (d_add rfl rfl (wrap_i64 (by omega) (by omega)))
          ·refine ⟨trivial, fun ph_ hp_ H3 w hW => ?_⟩
           obtain rfl := memN_one hp_
           replace hW : A3_0 H3 w := hW
           rw [hA3_0] at hW
           obtain ⟨hC, hib1, lob1, hb1, hib4, lob4, ne_b1_b4, hown, hts, hnob1, hib7, lob7, hb7, ne_b1_b7, _⟩ := hW
           refine Ok1.mono (ok_call c16 rfl (atom_calls _)) ?_
           rintro _ w' ⟨rfl, hg_⟩
           have hch_ : Ch [] _ w' := Gr.ch hg_
           have hC := hC.trans' hch_ (fun z hz => .inr (absurd hz (by simp)))
           have hib1 := hch_.lt hib1
           have hb1 := Ch.blk0 hch_ hb1 (by first | assumption | (simp; done) | (simp <;> omega))
           have hib4 := hch_.lt hib4
           have hown := Own.mv hown hch_ (fun b_ hb_ => by first | (simp; done) | (intro hm_; simp at hm_; subst hm_; contradiction))
           have hts : IsTs w' (b1 :: oblk lv) (lockL (hvR kz lk) (hvR hz lh) (2000 + sec)) xs := IsTs.mv hch_ (by intro y hy; first | (simp at hy; done) | (simp at hy; subst hy; simp; done) | (simp [hy]; done)) (fun x hx => .inl hx) _ _ hts
           have hib7 := hch_.lt hib7
           have hb7 := hb7.mv hch_ (by first | assumption | (simp; done) | (simp <;> omega))
           have hfin_ : A3_1 (updV H3 4 (Value.agg #[(vI 1), (vI (100 + (i : Int))), vN])) w' := by rw [hA3_1]; exact ⟨hC, hib1, lob1, hb1, hib4, lob4, ne_b1_b4, hown, hts, hnob1, hib7, lob7, hb7, ne_b1_b7, trivial⟩
           exact fin_ rfl ⟨hfin_, rfl⟩
          ·refine ⟨trivial, fun ph_ hp_ H3 w hW => ?_⟩
           obtain rfl := memN_one hp_
           replace hW : A3_1 H3 w := hW
           rw [hA3_1] at hW
           obtain ⟨hC, hib1, lob1, hb1, hib4, lob4, ne_b1_b4, hown, hts, hnob1, hib7, lob7, hb7, ne_b1_b7, _⟩ := hW
           refine Ok1.mono (ok_call c19 rfl (Knows_own_is (W := ⟨false, false⟩) (known := lockL (hvR kz lk) (hvR hz lh) (2000 + sec)) (t := Tm.mk 1 (100 + (i : Int)) []) (lock_b2 hk10 (by omega) (by omega)) _ (hT0 _ _ (hC.below hw0.size (by simp)) hw0) (by rw [lockL_len]; omega) (by rw [lockL_len]; exact hown) hts (IsT.sub (X := (b1 :: oblk lv)) (X' := []) (isT_atom _ _ _) (by simp)))) ?_
           rintro _ w' ⟨rfl, hg_⟩
           have hch_ : Ch [] _ w' := Gr.ch hg_
           have hC := hC.trans' hch_ (fun z hz => .inr (absurd hz (by simp)))
           have hib1 := hch_.lt hib1
           have hb1 := Ch.blk0 hch_ hb1 (by first | assumption | (simp; done) | (simp <;> omega))
           have hib4 := hch_.lt hib4
           have hown := Own.mv hown hch_ (fun b_ hb_ => by first | (simp; done) | (intro hm_; simp at hm_; subst hm_; contradiction))
           have hts : IsTs w' (b1 :: oblk lv) (lockL (hvR kz lk) (hvR hz lh) (2000 + sec)) xs := IsTs.mv hch_ (by intro y hy; first | (simp at hy; done) | (simp at hy; subst hy; simp; done) | (simp [hy]; done)) (fun x hx => .inl hx) _ _ hts
           have hib7 := hch_.lt hib7
           have hb7 := hb7.mv hch_ (by first | assumption | (simp; done) | (simp <;> omega))
           have hfin_ : A3_2 (updV H3 5 vf) w' := by rw [hA3_2]; exact ⟨hC, hib1, lob1, hb1, hib4, lob4, ne_b1_b4, hown, hts, hnob1, hib7, lob7, hb7, ne_b1_b7, trivial⟩
           exact fin_ rfl ⟨hfin_, rfl⟩
         ·intro ac w H3 hW hF
          replace hW : A3_2 H3 w := hW
          rw [hA3_2] at hW
          obtain ⟨hC, hib1, lob1, hb1, hib4, lob4, ne_b1_b4, hown, hts, hnob1, hib7, lob7, hb7, ne_b1_b7, _⟩ := hW
          clear hA3_0 A3_0 hA3_1 A3_1 hA3_2 A3_2
          have hF := hF.sub (L' := [(0, (Value.slice adk lk ck)), (13, lv), (15, (vp b7)), (16, (vI (i : Int))), (105, (vB (decide ((i : Int) < (lk : Int))))), (113, vf)]) ⟨rfl, rfl, rfl, rfl, rfl, rfl, trivial⟩
          refine then_n ?_
          refine wp_cond_false (hF.eval rfl) ?_
          refine wp_skip ?_
          refine block_n ?_
          refine then_n ?_
          refine wp_region_lit ?_
          refine wl (d_move rfl) rfl hF (fun ac hF => ?_)
          refine wl (d_add rfl rfl (wrap_i64 (by omega) (by omega))) rfl hF (fun ac hF => ?_)
          refine wl (d_assign rfl) rfl hF (fun ac hF => ?_)
          refine wl_nil ?_
          refine then_n ?_
          refine ⟨_, ?_, i + 1, rfl, (by omega), hF.sub ⟨rfl, rfl, rfl, rfl, trivial⟩, ⟨hC, hib1, lob1, hb1, hib4, lob4, ne_b1_b4, hown, hts, hnob1, hib7, lob7, hb7, ne_b1_b7, trivial⟩⟩
          omega
        ·have hi4 := of_decide_eq_false h
         clear h
         refine wp_exit ?_
         refine then_exit ?_
         refine then_exit ?_
         refine block_exit ?_
         refine then_n ?_
         refine wp_seq ?_
         refine wp_region_lit ?_
         refine wlR (ok_call c15 rfl (awake_calls _ (hT0 _ _ (hC.below hw0.size (by simp)) hw0))) rfl hF ?_
         rintro _ w ac ⟨rfl, hg_⟩ hF
         have hch_ : Ch [] _ w := Gr.ch hg_
         have hC := hC.trans' hch_ (fun z hz => .inr (absurd hz (by simp)))
         have hib1 := hch_.lt hib1
         have hb1 := Ch.blk0 hch_ hb1 (by first | assumption | (simp; done) | (simp <;> omega))
         have hib4 := hch_.lt hib4
         have hown := Own.mv hown hch_ (fun b_ hb_ => by first | (simp; done) | (intro hm_; simp at hm_; subst hm_; contradiction))
         have hts : IsTs w (b1 :: oblk lv) (lockL (hvR kz lk) (hvR hz lh) (2000 + sec)) xs := IsTs.mv hch_ (by intro y hy; first | (simp at hy; done) | (simp at hy; subst hy; simp; done) | (simp [hy]; done)) (fun x hx => .inl hx) _ _ hts
         have hib7 := hch_.lt hib7
         have hb7 := hb7.mv hch_ (by first | assumption | (simp; done) | (simp <;> omega))
         refine wl (d_assign rfl) rfl hF (fun ac hF => ?_)
         refine wl_nil ?_
         refine then_n ?_
         refine wp_ret ?_
         refine body_ret hF (results1 Tryd.results3 (RV.tmp hF rfl)) ?_
         exact ⟨rfl, hC.gr⟩
end Go.Mi.Term
