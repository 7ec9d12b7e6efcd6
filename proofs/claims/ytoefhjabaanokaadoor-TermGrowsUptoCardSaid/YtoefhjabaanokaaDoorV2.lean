/- Walks: what the laws' own functions return. -/
import Derived.Test.YtoefhjabaanokaaDoorB8
set_option linter.unusedSimpArgs false
set_option linter.unusedVariables false
set_option linter.unnecessarySimpa false
namespace Go.Mi.Term
open Go.Mi Go.Proofs Go.RowKit
set_option linter.unusedVariables false
theorem nin_ob {lv lv' : Value} {n b : Nat} (h : oblk lv' = oblk lv ∨ oblk lv' = [n]) (h1 : b ∉ oblk lv) (h2 : b < n) : b ∉ oblk lv' := by
 rcases h with h | h
 ·rw [h]; exact h1
 ·rw [h]; simp; omega

theorem aw_txt : (if may (Tm.mk 3 0 [Tm.mk 1 1 [], Tm.mk 1 2 []]) then txt (Tm.mk 3 0 [Tm.mk 1 1 [], Tm.mk 1 2 []]) else []) = [100, 104, 40, 110, 49, 44, 110, 50, 41] := by decide +kernel
theorem aw_k1 : knows ⟨false, false⟩ 40 40 [pubOf (Tm.mk 1 1 []), pubOf (Tm.mk 1 2 [])] (Tm.mk 3 0 [Tm.mk 1 1 [], Tm.mk 1 2 []]) = some false := by decide +kernel
theorem aw_k2 : knows ⟨true, false⟩ 40 40 [pubOf (Tm.mk 1 1 []), pubOf (Tm.mk 1 2 [])] (Tm.mk 3 0 [Tm.mk 1 1 [], Tm.mk 1 2 []]) = some true := by decide +kernel
theorem aw_k3 : knows ⟨false, false⟩ 40 40 [Tm.mk 1 1 [], pubOf (Tm.mk 1 2 [])] (Tm.mk 3 0 [Tm.mk 1 1 [], Tm.mk 1 2 []]) = some true := by decide +kernel

set_option maxRecDepth 100000 in
set_option maxHeartbeats 4000000 in
theorem awake_calls (w0 : World) (hw0 : T0 w0) : Calls Tryd.prog 15 (List.toArray []) w0 (Ret fun v w' => v = .bool true ∧ Gr w0 w') := by
 refine calls_of Tryd.func15 rfl Tryd.ntmps15 rfl fun ac hF => ?_
 have hC : Ch [] w0 w0 := Ch.refl _ _
 have hF := hF.sub (L' := []) trivial
 refine wp_seq ?_
 refine wp_region_lit ?_
 refine wl (d_assign rfl) rfl hF (fun ac hF => ?_)
 refine wl_nil ?_
 refine then_n ?_
 refine wp_seq ?_
 refine wp_region_lit ?_
 refine wlR (ok_call c16 rfl (atom_calls _)) rfl hF ?_
 rintro _ w ac ⟨rfl, hg_⟩ hF
 have hch_ : Ch [] _ w := Gr.ch hg_
 have hC := hC.trans' hch_ (fun z hz => .inr (absurd hz (by simp)))
 refine wlR (ok_call c16 rfl (atom_calls _)) rfl hF ?_
 rintro _ w ac ⟨rfl, hg_⟩ hF
 have hch_ : Ch [] _ w := Gr.ch hg_
 have hC := hC.trans' hch_ (fun z hz => .inr (absurd hz (by simp)))
 refine wlR (ok_alloc z26) rfl hF ?_
 rintro _ w ac ⟨b1, rfl, hnb_⟩ hF
 have hch_ : Ch [] _ w := hnb_.ch
 have lo_ := hnb_.lo hC.size
 have hC := hC.trans' hch_ (fun z hz => .inr (absurd hz (by simp)))
 have hib1 : b1 < w.heap.size := hnb_.lt
 have lob1 : w0.heap.size ≤ b1 := lo_
 have hb1 : w.heap[b1]? = some (.cells #[(vI 0), (vI 0), vN] 26 (0, 0)) := hnb_.blk
 refine wlR (ok_alloc z26) rfl hF ?_
 rintro _ w ac ⟨b2, rfl, hnb_⟩ hF
 have hch_ : Ch [] _ w := hnb_.ch
 have lo_ := hnb_.lo hC.size
 have ne_b1_b2 := hnb_.gt hib1
 have hC := hC.trans' hch_ (fun z hz => .inr (absurd hz (by simp)))
 have hib1 := hch_.lt hib1
 have hb1 := Ch.blk0 hch_ hb1 (by first | assumption | (simp; done) | (simp <;> omega))
 have hib2 : b2 < w.heap.size := hnb_.lt
 have lob2 : w0.heap.size ≤ b2 := lo_
 have hb2 : w.heap[b2]? = some (.cells #[(vI 0), (vI 0), vN] 26 (0, 0)) := hnb_.blk
 have ne_b1_b2 : b1 < b2 := ne_b1_b2
 refine wl0R (ok_storeA (c' := #[(vI 1), (vI 1), vN]) sz26 rfl rfl rfl (fun v hv => by simp at hv; rcases hv with rfl | rfl | rfl <;> rfl) hb1 rfl) hF ?_
 rintro w ac hu_ hF
 have hch_ : Ch [b1] _ w := hu_.ch
 have hC := hC.trans' hch_ (fun z hz => .inr ((by simp at hz; subst hz; assumption)))
 have hib1 := hch_.lt hib1
 have hib2 := hch_.lt hib2
 have hb2 := Ch.blk0 hch_ hb2 (by first | assumption | (simp; done) | (simp <;> omega))
 have hb1 : w.heap[b1]? = some (.cells #[(vI 1), (vI 1), vN] 26 (0, 0)) := hu_.blk
 refine wl0R (ok_storeA (c' := #[(vI 1), (vI 2), vN]) sz26 rfl rfl rfl (fun v hv => by simp at hv; rcases hv with rfl | rfl | rfl <;> rfl) hb2 rfl) hF ?_
 rintro w ac hu_ hF
 have hch_ : Ch [b2] _ w := hu_.ch
 have hC := hC.trans' hch_ (fun z hz => .inr ((by simp at hz; subst hz; assumption)))
 have hib1 := hch_.lt hib1
 have hb1 := Ch.blk0 hch_ hb1 (by first | assumption | (simp; done) | (simp <;> omega))
 have hib2 := hch_.lt hib2
 have hb2 : w.heap[b2]? = some (.cells #[(vI 1), (vI 2), vN] 26 (0, 0)) := hu_.blk
 refine wl_nil ?_
 refine then_n ?_
 refine wp_seq ?_
 refine wp_region_lit ?_
 refine wl (d_loadC Tryd.underlying26 rfl sz26 rfl ((At.of_blk hb1)) rfl) rfl hF (fun ac hF => ?_)
 refine wl (d_loadC Tryd.underlying26 rfl sz26 rfl ((At.of_blk hb2)) rfl) rfl hF (fun ac hF => ?_)
 have hX_ : ∀ x, x ∈ (b2 :: b1 :: []) → x < w.heap.size := by
  intro x hx
  simp only [List.mem_cons, List.not_mem_nil, or_false] at hx
  rcases hx with rfl | rfl
  ·exact hib2
  ·exact hib1
 refine wlR (ok_call c18 rfl (two_calls (X := (b2 :: b1 :: [])) (a := Tm.mk 1 1 []) (b := Tm.mk 1 2 []) _ hX_ (isT_atom _ _ _) (isT_atom _ _ _))) rfl hF ?_
 rintro _ w ac ⟨g3, rfl, hTg3, hg_⟩ hF
 have hch_ : Ch [] _ w := Gr.ch hg_
 have hC := hC.trans' hch_ (fun z hz => .inr (absurd hz (by simp)))
 have hib1 := hch_.lt hib1
 have hb1 := Ch.blk0 hch_ hb1 (by first | assumption | (simp; done) | (simp <;> omega))
 have hib2 := hch_.lt hib2
 have hb2 := Ch.blk0 hch_ hb2 (by first | assumption | (simp; done) | (simp <;> omega))
 refine wlR (ok_alloc z26) rfl hF ?_
 rintro _ w ac ⟨b4, rfl, hnb_⟩ hF
 have hch_ : Ch [] _ w := hnb_.ch
 have lo_ := hnb_.lo hC.size
 have ne_b1_b4 := hnb_.gt hib1
 have ne_b2_b4 := hnb_.gt hib2
 have hTg3_ := hTg3
 have hC := hC.trans' hch_ (fun z hz => .inr (absurd hz (by simp)))
 have hib1 := hch_.lt hib1
 have hb1 := Ch.blk0 hch_ hb1 (by first | assumption | (simp; done) | (simp <;> omega))
 have hib2 := hch_.lt hib2
 have hb2 := Ch.blk0 hch_ hb2 (by first | assumption | (simp; done) | (simp <;> omega))
 have hib4 : b4 < w.heap.size := hnb_.lt
 have lob4 : w0.heap.size ≤ b4 := lo_
 have hb4 : w.heap[b4]? = some (.cells #[(vI 0), (vI 0), vN] 26 (0, 0)) := hnb_.blk
 have ne_b1_b4 : b1 < b4 := ne_b1_b4
 have ne_b2_b4 : b2 < b4 := ne_b2_b4
 have hTg3 : IsT w (b4 :: b2 :: b1 :: []) (Tm.mk 3 0 [Tm.mk 1 1 [], Tm.mk 1 2 []]) [(vI 3), (vI 0), (vS g3 0 2 2)] := IsT.mv hnb_.ch (by simp) (fun x hx => by rcases List.mem_cons.1 hx with rfl | hx; exact .inr (Nat.le_of_eq hnb_.num.symm); exact .inl hx) _ _ hTg3_
 refine wl0R (ok_storeA (c' := #[(vI 3), (vI 0), (vS g3 0 2 2)]) sz26 rfl rfl rfl (fun v hv => by simp at hv; rcases hv with rfl | rfl | rfl <;> rfl) hb4 rfl) hF ?_
 rintro w ac hu_ hF
 have hch_ : Ch [b4] _ w := hu_.ch
 have hC := hC.trans' hch_ (fun z hz => .inr ((by simp at hz; subst hz; assumption)))
 have hib1 := hch_.lt hib1
 have hb1 := Ch.blk0 hch_ hb1 (by first | assumption | (simp; done) | (simp <;> omega))
 have hib2 := hch_.lt hib2
 have hb2 := Ch.blk0 hch_ hb2 (by first | assumption | (simp; done) | (simp <;> omega))
 have hTg3 : IsT w (b4 :: b2 :: b1 :: []) (Tm.mk 3 0 [Tm.mk 1 1 [], Tm.mk 1 2 []]) [(vI 3), (vI 0), (vS g3 0 2 2)] := IsT.mv hch_ (by intro y hy; first | (simp at hy; done) | (simp at hy; subst hy; simp; done) | (simp [hy]; done)) (fun x hx => .inl hx) _ _ hTg3
 have hib4 := hch_.lt hib4
 have hb4 : w.heap[b4]? = some (.cells #[(vI 3), (vI 0), (vS g3 0 2 2)] 26 (0, 0)) := hu_.blk
 refine wl_nil ?_
 refine then_n ?_
 refine wp_seq ?_
 obtain ⟨A1_0, hA1_0⟩ : ∃ A : (Nat → Value) → World → Prop, A = fun _ w => (Ch [] w0 w) ∧ (b1 < w.heap.size) ∧ (w0.heap.size ≤ b1) ∧ (w.heap[b1]? = some (.cells #[(vI 1), (vI 1), vN] 26 (0, 0))) ∧ (b2 < w.heap.size) ∧ (w0.heap.size ≤ b2) ∧ (w.heap[b2]? = some (.cells #[(vI 1), (vI 2), vN] 26 (0, 0))) ∧ (b1 < b2) ∧ (IsT w (b4 :: b2 :: b1 :: []) (Tm.mk 3 0 [Tm.mk 1 1 [], Tm.mk 1 2 []]) [(vI 3), (vI 0), (vS g3 0 2 2)]) ∧ (b4 < w.heap.size) ∧ (w0.heap.size ≤ b4) ∧ (w.heap[b4]? = some (.cells #[(vI 3), (vI 0), (vS g3 0 2 2)] 26 (0, 0))) ∧ (b1 < b4) ∧ (b2 < b4) ∧ True := ⟨_, rfl⟩
 obtain ⟨A1_1, hA1_1⟩ : ∃ A : (Nat → Value) → World → Prop, A = fun H1 w => (Ch [] w0 w) ∧ (b1 < w.heap.size) ∧ (w0.heap.size ≤ b1) ∧ (w.heap[b1]? = some (.cells #[(vI 1), (vI 1), vN] 26 (0, 0))) ∧ (b2 < w.heap.size) ∧ (w0.heap.size ≤ b2) ∧ (w.heap[b2]? = some (.cells #[(vI 1), (vI 2), vN] 26 (0, 0))) ∧ (b1 < b2) ∧ (IsT w (b4 :: b2 :: b1 :: []) (Tm.mk 3 0 [Tm.mk 1 1 [], Tm.mk 1 2 []]) [(vI 3), (vI 0), (vS g3 0 2 2)]) ∧ (b4 < w.heap.size) ∧ (w0.heap.size ≤ b4) ∧ (w.heap[b4]? = some (.cells #[(vI 3), (vI 0), (vS g3 0 2 2)] 26 (0, 0))) ∧ (b1 < b4) ∧ (b2 < b4) ∧ (IsT w (b4 :: b2 :: b1 :: []) (pubOf (Tm.mk 1 1 [])) [(vI 2), (vI 0), (vS (blk (H1 1)) 0 1 1)]) ∧ (H1 1 = (Value.agg #[(vI 2), (vI 0), (vS (blk (H1 1)) 0 1 1)])) ∧ True := ⟨_, rfl⟩
 obtain ⟨A1_2, hA1_2⟩ : ∃ A : (Nat → Value) → World → Prop, A = fun H1 w => (Ch [] w0 w) ∧ (b1 < w.heap.size) ∧ (w0.heap.size ≤ b1) ∧ (w.heap[b1]? = some (.cells #[(vI 1), (vI 1), vN] 26 (0, 0))) ∧ (b2 < w.heap.size) ∧ (w0.heap.size ≤ b2) ∧ (w.heap[b2]? = some (.cells #[(vI 1), (vI 2), vN] 26 (0, 0))) ∧ (b1 < b2) ∧ (IsT w (b4 :: b2 :: b1 :: []) (Tm.mk 3 0 [Tm.mk 1 1 [], Tm.mk 1 2 []]) [(vI 3), (vI 0), (vS g3 0 2 2)]) ∧ (b4 < w.heap.size) ∧ (w0.heap.size ≤ b4) ∧ (w.heap[b4]? = some (.cells #[(vI 3), (vI 0), (vS g3 0 2 2)] 26 (0, 0))) ∧ (b1 < b4) ∧ (b2 < b4) ∧ (IsT w (b4 :: b2 :: b1 :: []) (pubOf (Tm.mk 1 1 [])) [(vI 2), (vI 0), (vS (blk (H1 1)) 0 1 1)]) ∧ (H1 1 = (Value.agg #[(vI 2), (vI 0), (vS (blk (H1 1)) 0 1 1)])) ∧ (IsT w (b4 :: b2 :: b1 :: []) (pubOf (Tm.mk 1 2 [])) [(vI 2), (vI 0), (vS (blk (H1 3)) 0 1 1)]) ∧ (H1 3 = (Value.agg #[(vI 2), (vI 0), (vS (blk (H1 3)) 0 1 1)])) ∧ True := ⟨_, rfl⟩
 obtain ⟨A1_3, hA1_3⟩ : ∃ A : (Nat → Value) → World → Prop, A = fun H1 w => (Ch [] w0 w) ∧ (b1 < w.heap.size) ∧ (w0.heap.size ≤ b1) ∧ (w.heap[b1]? = some (.cells #[(vI 1), (vI 1), vN] 26 (0, 0))) ∧ (b2 < w.heap.size) ∧ (w0.heap.size ≤ b2) ∧ (w.heap[b2]? = some (.cells #[(vI 1), (vI 2), vN] 26 (0, 0))) ∧ (b1 < b2) ∧ (IsT w (b4 :: b2 :: b1 :: []) (Tm.mk 3 0 [Tm.mk 1 1 [], Tm.mk 1 2 []]) [(vI 3), (vI 0), (vS g3 0 2 2)]) ∧ (b4 < w.heap.size) ∧ (w0.heap.size ≤ b4) ∧ (w.heap[b4]? = some (.cells #[(vI 3), (vI 0), (vS g3 0 2 2)] 26 (0, 0))) ∧ (b1 < b4) ∧ (b2 < b4) ∧ (IsT w (b4 :: b2 :: b1 :: []) (pubOf (Tm.mk 1 1 [])) [(vI 2), (vI 0), (vS (blk (H1 1)) 0 1 1)]) ∧ (H1 1 = (Value.agg #[(vI 2), (vI 0), (vS (blk (H1 1)) 0 1 1)])) ∧ (IsT w (b4 :: b2 :: b1 :: []) (pubOf (Tm.mk 1 2 [])) [(vI 2), (vI 0), (vS (blk (H1 3)) 0 1 1)]) ∧ (H1 3 = (Value.agg #[(vI 2), (vI 0), (vS (blk (H1 3)) 0 1 1)])) ∧ ((blk (H1 4)) < w.heap.size) ∧ (w0.heap.size ≤ (blk (H1 4))) ∧ (At w (blk (H1 4)) 0 [(vI 2), (vI 0), (vS (blk (H1 1)) 0 1 1), (vI 2), (vI 0), (vS (blk (H1 3)) 0 1 1)]) ∧ (b1 < (blk (H1 4))) ∧ (b2 < (blk (H1 4))) ∧ (b4 < (blk (H1 4))) ∧ (H1 4 = (vS (blk (H1 4)) 0 2 2)) ∧ True := ⟨_, rfl⟩
 refine region_hist mo (fun p_ H_ w_ => (([A1_0, A1_1, A1_2, A1_3] : List ((Nat → Value) → World → Prop)).getD p_ (fun _ _ => True)) H_ w_) [1, 3, 4] (rows := [hr_ [] [(1, (vp b1))] [0] (Value.agg #[(vI 1), (vI 1), vN]), ⟨[(0, 10)], [], [0], [1], fun H1 => H1 1, fun H1 K_ h_ => by simp only [h_ 1 (by simp)]⟩, hr_ [] [(2, (vp b2))] [0, 1] (Value.agg #[(vI 1), (vI 2), vN]), ⟨[(2, 12)], [], [1], [3], fun H1 => H1 3, fun H1 K_ h_ => by simp only [h_ 3 (by simp)]⟩, ⟨[(1, 11), (3, 13)], [], [2], [4], fun H1 => H1 4, fun H1 K_ h_ => by simp only [h_ 4 (by simp)]⟩, ⟨[(4, 14)], [], [3], [4], fun H1 => (vS (blk (H1 4)) 0 2 2), fun H1 K_ h_ => by simp only [h_ 4 (by simp)]⟩]) (by kernel_rfl) hF (fun H_ => ?_) ?_ ?_
 ·have hch_ := Ch.drew w
  have hfin_ : A1_0 H_ { w with drawn := w.drawn + 1 } := by rw [hA1_0]; exact ⟨hC.trans' hch_ (fun z hz => .inr (absurd hz (by simp))), hch_.lt hib1, lob1, Ch.blk0 hch_ hb1 (by first | assumption | (simp; done) | (simp <;> omega)), hch_.lt hib2, lob2, Ch.blk0 hch_ hb2 (by first | assumption | (simp; done) | (simp <;> omega)), ne_b1_b2, IsT.mv hch_ (by intro y hy; first | (simp at hy; done) | (simp at hy; subst hy; simp; done) | (simp [hy]; done)) (fun x hx => .inl hx) _ _ hTg3, hch_.lt hib4, lob4, Ch.blk0 hch_ hb4 (by first | assumption | (simp; done) | (simp <;> omega)), ne_b1_b4, ne_b2_b4, trivial⟩
  exact hfin_
 ·refine ⟨?_, ?_, ?_, ?_, ?_, ?_, trivial⟩
  ·exact HOb.fact hA1_0 ⟨rfl, trivial⟩ rfl rfl rfl rfl (fun H1 w ⟨_, _, _, hb1, _⟩ => d_loadC Tryd.underlying26 rfl sz26 rfl ((At.of_blk hb1)) rfl)
  ·refine ⟨trivial, fun ph_ hp_ H1 w hW => ?_⟩
   obtain rfl := memN_one hp_
   replace hW : A1_0 H1 w := hW
   rw [hA1_0] at hW
   obtain ⟨hC, hib1, lob1, hb1, hib2, lob2, hb2, ne_b1_b2, hTg3, hib4, lob4, hb4, ne_b1_b4, ne_b2_b4, _⟩ := hW
   have hX_ : ∀ x, x ∈ (b4 :: b2 :: b1 :: []) → x < w.heap.size := by
    intro x hx
    simp only [List.mem_cons, List.not_mem_nil, or_false] at hx
    rcases hx with rfl | rfl | rfl
    ·exact hib4
    ·exact hib2
    ·exact hib1
   refine Ok1.mono (ok_call c20 rfl (pubL_calls (X := (b4 :: b2 :: b1 :: [])) (a := Tm.mk 1 1 []) _ hX_ (isT_atom _ _ _))) ?_
   rintro _ w' ⟨g5, rfl, hTg5, hg_⟩
   have hch_ : Ch [] _ w' := Gr.ch hg_
   have hC := hC.trans' hch_ (fun z hz => .inr (absurd hz (by simp)))
   have hib1 := hch_.lt hib1
   have hb1 := Ch.blk0 hch_ hb1 (by first | assumption | (simp; done) | (simp <;> omega))
   have hib2 := hch_.lt hib2
   have hb2 := Ch.blk0 hch_ hb2 (by first | assumption | (simp; done) | (simp <;> omega))
   have hTg3 : IsT w' (b4 :: b2 :: b1 :: []) (Tm.mk 3 0 [Tm.mk 1 1 [], Tm.mk 1 2 []]) [(vI 3), (vI 0), (vS g3 0 2 2)] := IsT.mv hch_ (by intro y hy; first | (simp at hy; done) | (simp at hy; subst hy; simp; done) | (simp [hy]; done)) (fun x hx => .inl hx) _ _ hTg3
   have hib4 := hch_.lt hib4
   have hb4 := Ch.blk0 hch_ hb4 (by first | assumption | (simp; done) | (simp <;> omega))
   have hfin_ : A1_1 (updV H1 1 (Value.agg #[(vI 2), (vI 0), (vS g5 0 1 1)])) w' := by rw [hA1_1]; exact ⟨hC, hib1, lob1, hb1, hib2, lob2, hb2, ne_b1_b2, hTg3, hib4, lob4, hb4, ne_b1_b4, ne_b2_b4, hTg5, rfl, trivial⟩
   exact fin_ rfl ⟨hfin_, rfl⟩
  ·refine ⟨⟨rfl, trivial⟩, fun ph_ hp_ H1 w hW => ?_⟩
   rcases memN_or hp_ with rfl | hp_
   ·have hW0 := hW
    replace hW : A1_0 H1 w := hW
    rw [hA1_0] at hW
    obtain ⟨hC, hib1, lob1, hb1, hib2, lob2, hb2, ne_b1_b2, hTg3, hib4, lob4, hb4, ne_b1_b4, ne_b2_b4, _⟩ := hW
    exact Det.ohc rfl hW0 (d_loadC Tryd.underlying26 rfl sz26 rfl ((At.of_blk hb2)) rfl)
   obtain rfl := memN_one hp_
   ·have hW0 := hW
    replace hW : A1_1 H1 w := hW
    rw [hA1_1] at hW
    obtain ⟨hC, hib1, lob1, hb1, hib2, lob2, hb2, ne_b1_b2, hTg3, hib4, lob4, hb4, ne_b1_b4, ne_b2_b4, hTg5, hv1_1, _⟩ := hW
    exact Det.ohc rfl hW0 (d_loadC Tryd.underlying26 rfl sz26 rfl ((At.of_blk hb2)) rfl)
  ·refine ⟨trivial, fun ph_ hp_ H1 w hW => ?_⟩
   obtain rfl := memN_one hp_
   replace hW : A1_1 H1 w := hW
   rw [hA1_1] at hW
   obtain ⟨hC, hib1, lob1, hb1, hib2, lob2, hb2, ne_b1_b2, hTg3, hib4, lob4, hb4, ne_b1_b4, ne_b2_b4, hTg5, hv1_1, _⟩ := hW
   have hX_ : ∀ x, x ∈ (b4 :: b2 :: b1 :: []) → x < w.heap.size := by
    intro x hx
    simp only [List.mem_cons, List.not_mem_nil, or_false] at hx
    rcases hx with rfl | rfl | rfl
    ·exact hib4
    ·exact hib2
    ·exact hib1
   refine Ok1.mono (ok_call c20 rfl (pubL_calls (X := (b4 :: b2 :: b1 :: [])) (a := Tm.mk 1 2 []) _ hX_ (isT_atom _ _ _))) ?_
   rintro _ w' ⟨g6, rfl, hTg6, hg_⟩
   have hch_ : Ch [] _ w' := Gr.ch hg_
   have hC := hC.trans' hch_ (fun z hz => .inr (absurd hz (by simp)))
   have hib1 := hch_.lt hib1
   have hb1 := Ch.blk0 hch_ hb1 (by first | assumption | (simp; done) | (simp <;> omega))
   have hib2 := hch_.lt hib2
   have hb2 := Ch.blk0 hch_ hb2 (by first | assumption | (simp; done) | (simp <;> omega))
   have hTg3 : IsT w' (b4 :: b2 :: b1 :: []) (Tm.mk 3 0 [Tm.mk 1 1 [], Tm.mk 1 2 []]) [(vI 3), (vI 0), (vS g3 0 2 2)] := IsT.mv hch_ (by intro y hy; first | (simp at hy; done) | (simp at hy; subst hy; simp; done) | (simp [hy]; done)) (fun x hx => .inl hx) _ _ hTg3
   have hib4 := hch_.lt hib4
   have hb4 := Ch.blk0 hch_ hb4 (by first | assumption | (simp; done) | (simp <;> omega))
   have hTg5 : IsT w' (b4 :: b2 :: b1 :: []) (pubOf (Tm.mk 1 1 [])) [(vI 2), (vI 0), (vS (blk (H1 1)) 0 1 1)] := IsT.mv hch_ (by intro y hy; first | (simp at hy; done) | (simp at hy; subst hy; simp; done) | (simp [hy]; done)) (fun x hx => .inl hx) _ _ hTg5
   have hfin_ : A1_2 (updV H1 3 (Value.agg #[(vI 2), (vI 0), (vS g6 0 1 1)])) w' := by rw [hA1_2]; exact ⟨hC, hib1, lob1, hb1, hib2, lob2, hb2, ne_b1_b2, hTg3, hib4, lob4, hb4, ne_b1_b4, ne_b2_b4, hTg5, hv1_1, hTg6, rfl, trivial⟩
   exact fin_ rfl ⟨hfin_, rfl⟩
  ·refine ⟨trivial, fun ph_ hp_ H1 w hW => ?_⟩
   obtain rfl := memN_one hp_
   replace hW : A1_2 H1 w := hW
   rw [hA1_2] at hW
   obtain ⟨hC, hib1, lob1, hb1, hib2, lob2, hb2, ne_b1_b2, hTg3, hib4, lob4, hb4, ne_b1_b4, ne_b2_b4, hTg5, hv1_1, hTg6, hv1_3, _⟩ := hW
   refine Ok1.sub (L' := [(11, (Value.agg #[(vI 2), (vI 0), (vS (blk (H1 1)) 0 1 1)])), (13, (Value.agg #[(vI 2), (vI 0), (vS (blk (H1 3)) 0 1 1)]))]) ⟨congrArg some hv1_1, congrArg some hv1_3, trivial⟩ (Ok1.mono (ok_buildSlice (cells := #[(vI 2), (vI 0), (vS (blk (H1 1)) 0 1 1), (vI 2), (vI 0), (vS (blk (H1 3)) 0 1 1)]) Tryd.underlying24 zz26 rfl (by decide) (by decide) (by exact fillT2)) ?_)
   rintro _ w' ⟨b7, rfl, hnb_⟩
   have hch_ : Ch [] _ w' := hnb_.ch
   have lo_ := hnb_.lo hC.size
   have ne_b1_b7 := hnb_.gt hib1
   have ne_b2_b7 := hnb_.gt hib2
   have ne_b4_b7 := hnb_.gt hib4
   have hC := hC.trans' hch_ (fun z hz => .inr (absurd hz (by simp)))
   have hib1 := hch_.lt hib1
   have hb1 := Ch.blk0 hch_ hb1 (by first | assumption | (simp; done) | (simp <;> omega))
   have hib2 := hch_.lt hib2
   have hb2 := Ch.blk0 hch_ hb2 (by first | assumption | (simp; done) | (simp <;> omega))
   have hTg3 : IsT w' (b4 :: b2 :: b1 :: []) (Tm.mk 3 0 [Tm.mk 1 1 [], Tm.mk 1 2 []]) [(vI 3), (vI 0), (vS g3 0 2 2)] := IsT.mv hch_ (by intro y hy; first | (simp at hy; done) | (simp at hy; subst hy; simp; done) | (simp [hy]; done)) (fun x hx => .inl hx) _ _ hTg3
   have hib4 := hch_.lt hib4
   have hb4 := Ch.blk0 hch_ hb4 (by first | assumption | (simp; done) | (simp <;> omega))
   have hTg5 : IsT w' (b4 :: b2 :: b1 :: []) (pubOf (Tm.mk 1 1 [])) [(vI 2), (vI 0), (vS (blk (H1 1)) 0 1 1)] := IsT.mv hch_ (by intro y hy; first | (simp at hy; done) | (simp at hy; subst hy; simp; done) | (simp [hy]; done)) (fun x hx => .inl hx) _ _ hTg5
   have hTg6 : IsT w' (b4 :: b2 :: b1 :: []) (pubOf (Tm.mk 1 2 [])) [(vI 2), (vI 0), (vS (blk (H1 3)) 0 1 1)] := IsT.mv hch_ (by intro y hy; first | (simp at hy; done) | (simp at hy; subst hy; simp; done) | (simp [hy]; done)) (fun x hx => .inl hx) _ _ hTg6
   have hib7 : b7 < w'.heap.size := hnb_.lt
   have lob7 : w0.heap.size ≤ b7 := lo_
   have hb7 : At w' b7 0 [(vI 2), (vI 0), (vS (blk (H1 1)) 0 1 1), (vI 2), (vI 0), (vS (blk (H1 3)) 0 1 1)] := hnb_.at
   have ne_b1_b7 : b1 < b7 := ne_b1_b7
   have ne_b2_b7 : b2 < b7 := ne_b2_b7
   have ne_b4_b7 : b4 < b7 := ne_b4_b7
   have hfin_ : A1_3 (updV H1 4 (vS b7 0 2 2)) w' := by rw [hA1_3]; exact ⟨hC, hib1, lob1, hb1, hib2, lob2, hb2, ne_b1_b2, hTg3, hib4, lob4, hb4, ne_b1_b4, ne_b2_b4, hTg5, hv1_1, hTg6, hv1_3, hib7, lob7, hb7, ne_b1_b7, ne_b2_b7, ne_b4_b7, rfl, trivial⟩
   exact fin_ rfl ⟨hfin_, rfl⟩
  ·exact HOb.fact hA1_3 trivial rfl rfl rfl rfl (fun H1 w ⟨_, _, _, _, _, _, _, _, _, _, _, _, _, _, _, _, _, _, _, _, _, _, _, _, hv1_4, _⟩ => Det.sub (L' := [(14, (vS (blk (H1 4)) 0 2 2))]) ⟨congrArg some hv1_4, trivial⟩ (d_assign rfl))
 ·intro ac w H1 hW hF
  replace hW : A1_3 H1 w := hW
  rw [hA1_3] at hW
  obtain ⟨hC, hib1, lob1, hb1, hib2, lob2, hb2, ne_b1_b2, hTg3, hib4, lob4, hb4, ne_b1_b4, ne_b2_b4, hTg5, hv1_1, hTg6, hv1_3, hib7, lob7, hb7, ne_b1_b7, ne_b2_b7, ne_b4_b7, hv1_4, _⟩ := hW
  clear hA1_0 A1_0 hA1_1 A1_1 hA1_2 A1_2 hA1_3 A1_3
  have hF := hF.sub (L' := [(0, vf), (1, (vp b1)), (2, (vp b2)), (3, (vp b4)), (4, (vS (blk (H1 4)) 0 2 2))]) ⟨rfl, rfl, rfl, rfl, rfl, trivial⟩
  refine then_n ?_
  refine wp_seq ?_
  obtain ⟨A2_0, hA2_0⟩ : ∃ A : (Nat → Value) → World → Prop, A = fun _ w => (Ch [] w0 w) ∧ (b1 < w.heap.size) ∧ (w0.heap.size ≤ b1) ∧ (w.heap[b1]? = some (.cells #[(vI 1), (vI 1), vN] 26 (0, 0))) ∧ (b2 < w.heap.size) ∧ (w0.heap.size ≤ b2) ∧ (w.heap[b2]? = some (.cells #[(vI 1), (vI 2), vN] 26 (0, 0))) ∧ (b1 < b2) ∧ (IsT w (b4 :: b2 :: b1 :: []) (Tm.mk 3 0 [Tm.mk 1 1 [], Tm.mk 1 2 []]) [(vI 3), (vI 0), (vS g3 0 2 2)]) ∧ (b4 < w.heap.size) ∧ (w0.heap.size ≤ b4) ∧ (w.heap[b4]? = some (.cells #[(vI 3), (vI 0), (vS g3 0 2 2)] 26 (0, 0))) ∧ (b1 < b4) ∧ (b2 < b4) ∧ (IsT w (b4 :: b2 :: b1 :: []) (pubOf (Tm.mk 1 1 [])) [(vI 2), (vI 0), (vS (blk (H1 1)) 0 1 1)]) ∧ (H1 1 = (Value.agg #[(vI 2), (vI 0), (vS (blk (H1 1)) 0 1 1)])) ∧ (IsT w (b4 :: b2 :: b1 :: []) (pubOf (Tm.mk 1 2 [])) [(vI 2), (vI 0), (vS (blk (H1 3)) 0 1 1)]) ∧ (H1 3 = (Value.agg #[(vI 2), (vI 0), (vS (blk (H1 3)) 0 1 1)])) ∧ ((blk (H1 4)) < w.heap.size) ∧ (w0.heap.size ≤ (blk (H1 4))) ∧ (At w (blk (H1 4)) 0 [(vI 2), (vI 0), (vS (blk (H1 1)) 0 1 1), (vI 2), (vI 0), (vS (blk (H1 3)) 0 1 1)]) ∧ (b1 < (blk (H1 4))) ∧ (b2 < (blk (H1 4))) ∧ (b4 < (blk (H1 4))) ∧ (H1 4 = (vS (blk (H1 4)) 0 2 2)) ∧ True := ⟨_, rfl⟩
  obtain ⟨A2_1, hA2_1⟩ : ∃ A : (Nat → Value) → World → Prop, A = fun _ w => (Ch [] w0 w) ∧ (b1 < w.heap.size) ∧ (w0.heap.size ≤ b1) ∧ (w.heap[b1]? = some (.cells #[(vI 1), (vI 1), vN] 26 (0, 0))) ∧ (b2 < w.heap.size) ∧ (w0.heap.size ≤ b2) ∧ (w.heap[b2]? = some (.cells #[(vI 1), (vI 2), vN] 26 (0, 0))) ∧ (b1 < b2) ∧ (IsT w (b4 :: b2 :: b1 :: []) (Tm.mk 3 0 [Tm.mk 1 1 [], Tm.mk 1 2 []]) [(vI 3), (vI 0), (vS g3 0 2 2)]) ∧ (b4 < w.heap.size) ∧ (w0.heap.size ≤ b4) ∧ (w.heap[b4]? = some (.cells #[(vI 3), (vI 0), (vS g3 0 2 2)] 26 (0, 0))) ∧ (b1 < b4) ∧ (b2 < b4) ∧ (IsT w (b4 :: b2 :: b1 :: []) (pubOf (Tm.mk 1 1 [])) [(vI 2), (vI 0), (vS (blk (H1 1)) 0 1 1)]) ∧ (H1 1 = (Value.agg #[(vI 2), (vI 0), (vS (blk (H1 1)) 0 1 1)])) ∧ (IsT w (b4 :: b2 :: b1 :: []) (pubOf (Tm.mk 1 2 [])) [(vI 2), (vI 0), (vS (blk (H1 3)) 0 1 1)]) ∧ (H1 3 = (Value.agg #[(vI 2), (vI 0), (vS (blk (H1 3)) 0 1 1)])) ∧ ((blk (H1 4)) < w.heap.size) ∧ (w0.heap.size ≤ (blk (H1 4))) ∧ (At w (blk (H1 4)) 0 [(vI 2), (vI 0), (vS (blk (H1 1)) 0 1 1), (vI 2), (vI 0), (vS (blk (H1 3)) 0 1 1)]) ∧ (b1 < (blk (H1 4))) ∧ (b2 < (blk (H1 4))) ∧ (b4 < (blk (H1 4))) ∧ (H1 4 = (vS (blk (H1 4)) 0 2 2)) ∧ True := ⟨_, rfl⟩
  obtain ⟨A2_2, hA2_2⟩ : ∃ A : (Nat → Value) → World → Prop, A = fun _ w => (Ch [] w0 w) ∧ (b1 < w.heap.size) ∧ (w0.heap.size ≤ b1) ∧ (w.heap[b1]? = some (.cells #[(vI 1), (vI 1), vN] 26 (0, 0))) ∧ (b2 < w.heap.size) ∧ (w0.heap.size ≤ b2) ∧ (w.heap[b2]? = some (.cells #[(vI 1), (vI 2), vN] 26 (0, 0))) ∧ (b1 < b2) ∧ (IsT w (b4 :: b2 :: b1 :: []) (Tm.mk 3 0 [Tm.mk 1 1 [], Tm.mk 1 2 []]) [(vI 3), (vI 0), (vS g3 0 2 2)]) ∧ (b4 < w.heap.size) ∧ (w0.heap.size ≤ b4) ∧ (w.heap[b4]? = some (.cells #[(vI 3), (vI 0), (vS g3 0 2 2)] 26 (0, 0))) ∧ (b1 < b4) ∧ (b2 < b4) ∧ (IsT w (b4 :: b2 :: b1 :: []) (pubOf (Tm.mk 1 1 [])) [(vI 2), (vI 0), (vS (blk (H1 1)) 0 1 1)]) ∧ (H1 1 = (Value.agg #[(vI 2), (vI 0), (vS (blk (H1 1)) 0 1 1)])) ∧ (IsT w (b4 :: b2 :: b1 :: []) (pubOf (Tm.mk 1 2 [])) [(vI 2), (vI 0), (vS (blk (H1 3)) 0 1 1)]) ∧ (H1 3 = (Value.agg #[(vI 2), (vI 0), (vS (blk (H1 3)) 0 1 1)])) ∧ ((blk (H1 4)) < w.heap.size) ∧ (w0.heap.size ≤ (blk (H1 4))) ∧ (At w (blk (H1 4)) 0 [(vI 2), (vI 0), (vS (blk (H1 1)) 0 1 1), (vI 2), (vI 0), (vS (blk (H1 3)) 0 1 1)]) ∧ (b1 < (blk (H1 4))) ∧ (b2 < (blk (H1 4))) ∧ (b4 < (blk (H1 4))) ∧ (H1 4 = (vS (blk (H1 4)) 0 2 2)) ∧ True := ⟨_, rfl⟩
  obtain ⟨A2_3, hA2_3⟩ : ∃ A : (Nat → Value) → World → Prop, A = fun _ w => (Ch [] w0 w) ∧ (b1 < w.heap.size) ∧ (w0.heap.size ≤ b1) ∧ (w.heap[b1]? = some (.cells #[(vI 1), (vI 1), vN] 26 (0, 0))) ∧ (b2 < w.heap.size) ∧ (w0.heap.size ≤ b2) ∧ (w.heap[b2]? = some (.cells #[(vI 1), (vI 2), vN] 26 (0, 0))) ∧ (b1 < b2) ∧ (IsT w (b4 :: b2 :: b1 :: []) (Tm.mk 3 0 [Tm.mk 1 1 [], Tm.mk 1 2 []]) [(vI 3), (vI 0), (vS g3 0 2 2)]) ∧ (b4 < w.heap.size) ∧ (w0.heap.size ≤ b4) ∧ (w.heap[b4]? = some (.cells #[(vI 3), (vI 0), (vS g3 0 2 2)] 26 (0, 0))) ∧ (b1 < b4) ∧ (b2 < b4) ∧ (IsT w (b4 :: b2 :: b1 :: []) (pubOf (Tm.mk 1 1 [])) [(vI 2), (vI 0), (vS (blk (H1 1)) 0 1 1)]) ∧ (H1 1 = (Value.agg #[(vI 2), (vI 0), (vS (blk (H1 1)) 0 1 1)])) ∧ (IsT w (b4 :: b2 :: b1 :: []) (pubOf (Tm.mk 1 2 [])) [(vI 2), (vI 0), (vS (blk (H1 3)) 0 1 1)]) ∧ (H1 3 = (Value.agg #[(vI 2), (vI 0), (vS (blk (H1 3)) 0 1 1)])) ∧ ((blk (H1 4)) < w.heap.size) ∧ (w0.heap.size ≤ (blk (H1 4))) ∧ (At w (blk (H1 4)) 0 [(vI 2), (vI 0), (vS (blk (H1 1)) 0 1 1), (vI 2), (vI 0), (vS (blk (H1 3)) 0 1 1)]) ∧ (b1 < (blk (H1 4))) ∧ (b2 < (blk (H1 4))) ∧ (b4 < (blk (H1 4))) ∧ (H1 4 = (vS (blk (H1 4)) 0 2 2)) ∧ True := ⟨_, rfl⟩
  obtain ⟨A2_4, hA2_4⟩ : ∃ A : (Nat → Value) → World → Prop, A = fun H2 w => (Ch [] w0 w) ∧ (b1 < w.heap.size) ∧ (w0.heap.size ≤ b1) ∧ (w.heap[b1]? = some (.cells #[(vI 1), (vI 1), vN] 26 (0, 0))) ∧ (b2 < w.heap.size) ∧ (w0.heap.size ≤ b2) ∧ (w.heap[b2]? = some (.cells #[(vI 1), (vI 2), vN] 26 (0, 0))) ∧ (b1 < b2) ∧ (IsT w (b4 :: b2 :: b1 :: []) (Tm.mk 3 0 [Tm.mk 1 1 [], Tm.mk 1 2 []]) [(vI 3), (vI 0), (vS g3 0 2 2)]) ∧ (b4 < w.heap.size) ∧ (w0.heap.size ≤ b4) ∧ (w.heap[b4]? = some (.cells #[(vI 3), (vI 0), (vS g3 0 2 2)] 26 (0, 0))) ∧ (b1 < b4) ∧ (b2 < b4) ∧ (IsT w (b4 :: b2 :: b1 :: []) (pubOf (Tm.mk 1 1 [])) [(vI 2), (vI 0), (vS (blk (H1 1)) 0 1 1)]) ∧ (H1 1 = (Value.agg #[(vI 2), (vI 0), (vS (blk (H1 1)) 0 1 1)])) ∧ (IsT w (b4 :: b2 :: b1 :: []) (pubOf (Tm.mk 1 2 [])) [(vI 2), (vI 0), (vS (blk (H1 3)) 0 1 1)]) ∧ (H1 3 = (Value.agg #[(vI 2), (vI 0), (vS (blk (H1 3)) 0 1 1)])) ∧ ((blk (H1 4)) < w.heap.size) ∧ (w0.heap.size ≤ (blk (H1 4))) ∧ (At w (blk (H1 4)) 0 [(vI 2), (vI 0), (vS (blk (H1 1)) 0 1 1), (vI 2), (vI 0), (vS (blk (H1 3)) 0 1 1)]) ∧ (b1 < (blk (H1 4))) ∧ (b2 < (blk (H1 4))) ∧ (b4 < (blk (H1 4))) ∧ (H1 4 = (vS (blk (H1 4)) 0 2 2)) ∧ (IsT w (b4 :: b2 :: b1 :: []) (pubOf (Tm.mk 1 2 [])) [(vI 2), (vI 0), (vS (blk (H2 20)) 0 1 1)]) ∧ (H2 20 = (Value.agg #[(vI 2), (vI 0), (vS (blk (H2 20)) 0 1 1)])) ∧ True := ⟨_, rfl⟩
  obtain ⟨A2_5, hA2_5⟩ : ∃ A : (Nat → Value) → World → Prop, A = fun H2 w => (Ch [] w0 w) ∧ (b1 < w.heap.size) ∧ (w0.heap.size ≤ b1) ∧ (w.heap[b1]? = some (.cells #[(vI 1), (vI 1), vN] 26 (0, 0))) ∧ (b2 < w.heap.size) ∧ (w0.heap.size ≤ b2) ∧ (w.heap[b2]? = some (.cells #[(vI 1), (vI 2), vN] 26 (0, 0))) ∧ (b1 < b2) ∧ (IsT w (b4 :: b2 :: b1 :: []) (Tm.mk 3 0 [Tm.mk 1 1 [], Tm.mk 1 2 []]) [(vI 3), (vI 0), (vS g3 0 2 2)]) ∧ (b4 < w.heap.size) ∧ (w0.heap.size ≤ b4) ∧ (w.heap[b4]? = some (.cells #[(vI 3), (vI 0), (vS g3 0 2 2)] 26 (0, 0))) ∧ (b1 < b4) ∧ (b2 < b4) ∧ (IsT w (b4 :: b2 :: b1 :: []) (pubOf (Tm.mk 1 1 [])) [(vI 2), (vI 0), (vS (blk (H1 1)) 0 1 1)]) ∧ (H1 1 = (Value.agg #[(vI 2), (vI 0), (vS (blk (H1 1)) 0 1 1)])) ∧ (IsT w (b4 :: b2 :: b1 :: []) (pubOf (Tm.mk 1 2 [])) [(vI 2), (vI 0), (vS (blk (H1 3)) 0 1 1)]) ∧ (H1 3 = (Value.agg #[(vI 2), (vI 0), (vS (blk (H1 3)) 0 1 1)])) ∧ ((blk (H1 4)) < w.heap.size) ∧ (w0.heap.size ≤ (blk (H1 4))) ∧ (At w (blk (H1 4)) 0 [(vI 2), (vI 0), (vS (blk (H1 1)) 0 1 1), (vI 2), (vI 0), (vS (blk (H1 3)) 0 1 1)]) ∧ (b1 < (blk (H1 4))) ∧ (b2 < (blk (H1 4))) ∧ (b4 < (blk (H1 4))) ∧ (H1 4 = (vS (blk (H1 4)) 0 2 2)) ∧ (IsT w (b4 :: b2 :: b1 :: []) (pubOf (Tm.mk 1 2 [])) [(vI 2), (vI 0), (vS (blk (H2 20)) 0 1 1)]) ∧ (H2 20 = (Value.agg #[(vI 2), (vI 0), (vS (blk (H2 20)) 0 1 1)])) ∧ ((blk (H2 21)) < w.heap.size) ∧ (w0.heap.size ≤ (blk (H2 21))) ∧ (At w (blk (H2 21)) 0 [(vI 1), (vI 1), vN, (vI 2), (vI 0), (vS (blk (H2 20)) 0 1 1)]) ∧ (b1 < (blk (H2 21))) ∧ (b2 < (blk (H2 21))) ∧ (b4 < (blk (H2 21))) ∧ ((blk (H1 4)) < (blk (H2 21))) ∧ (H2 21 = (vS (blk (H2 21)) 0 2 2)) ∧ True := ⟨_, rfl⟩
  obtain ⟨A2_6, hA2_6⟩ : ∃ A : (Nat → Value) → World → Prop, A = fun H2 w => (Ch [] w0 w) ∧ (b1 < w.heap.size) ∧ (w0.heap.size ≤ b1) ∧ (w.heap[b1]? = some (.cells #[(vI 1), (vI 1), vN] 26 (0, 0))) ∧ (b2 < w.heap.size) ∧ (w0.heap.size ≤ b2) ∧ (w.heap[b2]? = some (.cells #[(vI 1), (vI 2), vN] 26 (0, 0))) ∧ (b1 < b2) ∧ (IsT w (b4 :: b2 :: b1 :: []) (Tm.mk 3 0 [Tm.mk 1 1 [], Tm.mk 1 2 []]) [(vI 3), (vI 0), (vS g3 0 2 2)]) ∧ (b4 < w.heap.size) ∧ (w0.heap.size ≤ b4) ∧ (w.heap[b4]? = some (.cells #[(vI 3), (vI 0), (vS g3 0 2 2)] 26 (0, 0))) ∧ (b1 < b4) ∧ (b2 < b4) ∧ (IsT w (b4 :: b2 :: b1 :: []) (pubOf (Tm.mk 1 1 [])) [(vI 2), (vI 0), (vS (blk (H1 1)) 0 1 1)]) ∧ (H1 1 = (Value.agg #[(vI 2), (vI 0), (vS (blk (H1 1)) 0 1 1)])) ∧ (IsT w (b4 :: b2 :: b1 :: []) (pubOf (Tm.mk 1 2 [])) [(vI 2), (vI 0), (vS (blk (H1 3)) 0 1 1)]) ∧ (H1 3 = (Value.agg #[(vI 2), (vI 0), (vS (blk (H1 3)) 0 1 1)])) ∧ ((blk (H1 4)) < w.heap.size) ∧ (w0.heap.size ≤ (blk (H1 4))) ∧ (At w (blk (H1 4)) 0 [(vI 2), (vI 0), (vS (blk (H1 1)) 0 1 1), (vI 2), (vI 0), (vS (blk (H1 3)) 0 1 1)]) ∧ (b1 < (blk (H1 4))) ∧ (b2 < (blk (H1 4))) ∧ (b4 < (blk (H1 4))) ∧ (H1 4 = (vS (blk (H1 4)) 0 2 2)) ∧ (IsT w (b4 :: b2 :: b1 :: []) (pubOf (Tm.mk 1 2 [])) [(vI 2), (vI 0), (vS (blk (H2 20)) 0 1 1)]) ∧ (H2 20 = (Value.agg #[(vI 2), (vI 0), (vS (blk (H2 20)) 0 1 1)])) ∧ ((blk (H2 21)) < w.heap.size) ∧ (w0.heap.size ≤ (blk (H2 21))) ∧ (At w (blk (H2 21)) 0 [(vI 1), (vI 1), vN, (vI 2), (vI 0), (vS (blk (H2 20)) 0 1 1)]) ∧ (b1 < (blk (H2 21))) ∧ (b2 < (blk (H2 21))) ∧ (b4 < (blk (H2 21))) ∧ ((blk (H1 4)) < (blk (H2 21))) ∧ (H2 21 = (vS (blk (H2 21)) 0 2 2)) ∧ True := ⟨_, rfl⟩
  refine region_hist mo (fun p_ H_ w_ => (([A2_0, A2_1, A2_2, A2_3, A2_4, A2_5, A2_6] : List ((Nat → Value) → World → Prop)).getD p_ (fun _ _ => True)) H_ w_) [1, 7, 14, 20, 21, 23] (rows := [hr_ [] [(3, (vp b4))] [0] (Value.agg #[(vI 3), (vI 0), (vS g3 0 2 2)]), hr_ [(0, 15)] [] [0] (vT (if may (Tm.mk 3 0 [Tm.mk 1 1 [], Tm.mk 1 2 []]) then txt (Tm.mk 3 0 [Tm.mk 1 1 [], Tm.mk 1 2 []]) else [])), hr_ [(1, 16)] [] [1] vt, hr_ [(2, 17)] [] [1] vt, hr_ [(3, 18)] [] [1] (Value.agg #[vf, vf]), hr_ [(3, 18)] [(4, (vS (blk (H1 4)) 0 2 2))] [1] (vS (blk (H1 4)) 0 2 2), hr_ [(3, 18)] [(3, (vp b4))] [1] (Value.agg #[(vI 3), (vI 0), (vS g3 0 2 2)]), hr_ [(4, 19), (5, 20), (6, 21), (3, 18)] [] [1] vf, hr_ [(7, 22), (3, 18)] [] [2] vt, hr_ [(3, 18), (8, 23)] [] [2] vt, hr_ [(9, 24)] [] [2] vt, hr_ [(10, 25)] [] [2] (Value.agg #[vt, vf]), hr_ [(10, 25)] [(4, (vS (blk (H1 4)) 0 2 2))] [2] (vS (blk (H1 4)) 0 2 2), hr_ [(10, 25)] [(3, (vp b4))] [2] (Value.agg #[(vI 3), (vI 0), (vS g3 0 2 2)]), hr_ [(11, 26), (12, 27), (13, 28), (10, 25)] [] [2] vt, hr_ [(10, 25), (14, 29)] [] [3] vt, hr_ [(15, 30)] [] [3] vt, hr_ [(16, 31)] [] [3, 4, 5] (Value.agg #[vf, vf]), hr_ [(16, 31)] [(1, (vp b1))] [3, 4] (Value.agg #[(vI 1), (vI 1), vN]), hr_ [(16, 31)] [(2, (vp b2))] [3] (Value.agg #[(vI 1), (vI 2), vN]), ⟨[(19, 34), (16, 31)], [], [3], [20], fun H2 => H2 20, fun H2 K_ h_ => by simp only [h_ 20 (by simp)]⟩, ⟨[(18, 33), (20, 35), (16, 31)], [], [4], [21], fun H2 => H2 21, fun H2 K_ h_ => by simp only [h_ 21 (by simp)]⟩, hr_ [(16, 31)] [(3, (vp b4))] [3, 4, 5] (Value.agg #[(vI 3), (vI 0), (vS g3 0 2 2)]), hr_ [(17, 32), (21, 36), (22, 37), (16, 31)] [] [5] vt, hr_ [(16, 31), (23, 38)] [] [6] vt, hr_ [(24, 39)] [] [6] vt]) (by kernel_rfl) hF (fun H_ => ?_) ?_ ?_
  ·have hch_ := Ch.drew w
   have hfin_ : A2_0 H_ { w with drawn := w.drawn + 1 } := by rw [hA2_0]; exact ⟨hC.trans' hch_ (fun z hz => .inr (absurd hz (by simp))), hch_.lt hib1, lob1, Ch.blk0 hch_ hb1 (by first | assumption | (simp; done) | (simp <;> omega)), hch_.lt hib2, lob2, Ch.blk0 hch_ hb2 (by first | assumption | (simp; done) | (simp <;> omega)), ne_b1_b2, IsT.mv hch_ (by intro y hy; first | (simp at hy; done) | (simp at hy; subst hy; simp; done) | (simp [hy]; done)) (fun x hx => .inl hx) _ _ hTg3, hch_.lt hib4, lob4, Ch.blk0 hch_ hb4 (by first | assumption | (simp; done) | (simp <;> omega)), ne_b1_b4, ne_b2_b4, IsT.mv hch_ (by intro y hy; first | (simp at hy; done) | (simp at hy; subst hy; simp; done) | (simp [hy]; done)) (fun x hx => .inl hx) _ _ hTg5, hv1_1, IsT.mv hch_ (by intro y hy; first | (simp at hy; done) | (simp at hy; subst hy; simp; done) | (simp [hy]; done)) (fun x hx => .inl hx) _ _ hTg6, hv1_3, hch_.lt hib7, lob7, hb7.mv hch_ (by first | assumption | (simp; done) | (simp <;> omega)), ne_b1_b7, ne_b2_b7, ne_b4_b7, hv1_4, trivial⟩
   exact hfin_
  ·refine ⟨?_, ?_, ?_, ?_, ?_, ?_, ?_, ?_, ?_, ?_, ?_, ?_, ?_, ?_, ?_, ?_, ?_, ?_, ?_, ?_, ?_, ?_, ?_, ?_, ?_, ?_, trivial⟩
   ·exact HOb.fact hA2_0 ⟨rfl, trivial⟩ rfl rfl rfl rfl (fun H2 w ⟨_, _, _, _, _, _, _, _, _, _, _, hb4, _⟩ => d_loadC Tryd.underlying26 rfl sz26 rfl ((At.of_blk hb4)) rfl)
   ·refine ⟨trivial, fun ph_ hp_ H2 w hW => ?_⟩
    obtain rfl := memN_one hp_
    replace hW : A2_0 H2 w := hW
    rw [hA2_0] at hW
    obtain ⟨hC, hib1, lob1, hb1, hib2, lob2, hb2, ne_b1_b2, hTg3, hib4, lob4, hb4, ne_b1_b4, ne_b2_b4, hTg5, hv1_1, hTg6, hv1_3, hib7, lob7, hb7, ne_b1_b7, ne_b2_b7, ne_b4_b7, hv1_4, _⟩ := hW
    refine Ok1.mono (ok_call c41 rfl (Text_at (t := Tm.mk 3 0 [Tm.mk 1 1 [], Tm.mk 1 2 []]) _ (hT0 _ _ (hC.below hw0.size (by simp)) hw0) (IsT.sub hTg3 (by simp)))) ?_
    rintro _ w' ⟨rfl, hg_⟩
    have hch_ : Ch [] _ w' := Gr.ch hg_
    have hC := hC.trans' hch_ (fun z hz => .inr (absurd hz (by simp)))
    have hib1 := hch_.lt hib1
    have hb1 := Ch.blk0 hch_ hb1 (by first | assumption | (simp; done) | (simp <;> omega))
    have hib2 := hch_.lt hib2
    have hb2 := Ch.blk0 hch_ hb2 (by first | assumption | (simp; done) | (simp <;> omega))
    have hTg3 : IsT w' (b4 :: b2 :: b1 :: []) (Tm.mk 3 0 [Tm.mk 1 1 [], Tm.mk 1 2 []]) [(vI 3), (vI 0), (vS g3 0 2 2)] := IsT.mv hch_ (by intro y hy; first | (simp at hy; done) | (simp at hy; subst hy; simp; done) | (simp [hy]; done)) (fun x hx => .inl hx) _ _ hTg3
    have hib4 := hch_.lt hib4
    have hb4 := Ch.blk0 hch_ hb4 (by first | assumption | (simp; done) | (simp <;> omega))
    have hTg5 : IsT w' (b4 :: b2 :: b1 :: []) (pubOf (Tm.mk 1 1 [])) [(vI 2), (vI 0), (vS (blk (H1 1)) 0 1 1)] := IsT.mv hch_ (by intro y hy; first | (simp at hy; done) | (simp at hy; subst hy; simp; done) | (simp [hy]; done)) (fun x hx => .inl hx) _ _ hTg5
    have hTg6 : IsT w' (b4 :: b2 :: b1 :: []) (pubOf (Tm.mk 1 2 [])) [(vI 2), (vI 0), (vS (blk (H1 3)) 0 1 1)] := IsT.mv hch_ (by intro y hy; first | (simp at hy; done) | (simp at hy; subst hy; simp; done) | (simp [hy]; done)) (fun x hx => .inl hx) _ _ hTg6
    have hib7 := hch_.lt hib7
    have hb7 := hb7.mv hch_ (by first | assumption | (simp; done) | (simp <;> omega))
    have hfin_ : A2_1 (updV H2 1 (vT (if may (Tm.mk 3 0 [Tm.mk 1 1 [], Tm.mk 1 2 []]) then txt (Tm.mk 3 0 [Tm.mk 1 1 [], Tm.mk 1 2 []]) else []))) w' := by rw [hA2_1]; exact ⟨hC, hib1, lob1, hb1, hib2, lob2, hb2, ne_b1_b2, hTg3, hib4, lob4, hb4, ne_b1_b4, ne_b2_b4, hTg5, hv1_1, hTg6, hv1_3, hib7, lob7, hb7, ne_b1_b7, ne_b2_b7, ne_b4_b7, hv1_4, trivial⟩
    exact fin_ rfl ⟨hfin_, rfl⟩
   ·exact HOb.pure trivial rfl rfl (fun _ _ => d_bool (c := true) (d_eqlS rfl rfl) (decide_eq_true aw_txt))
   ·exact HOb.pure trivial rfl rfl (fun _ _ => d_move rfl)
   ·exact HOb.pureG trivial rfl rfl (fun _ => rfl) rfl (fun _ _ => d_buildS (cells := #[vf, vf]) Tryd.underlying31 z31 (fun w => pl31 w _ Tryd.underlying31) rfl (by simp [Instr.fill, Value.cells]))
   ·exact HOb.pureG ⟨rfl, trivial⟩ rfl rfl (fun _ => rfl) rfl (fun _ _ => d_move rfl)
   ·exact HOb.factG hA2_1 ⟨rfl, trivial⟩ rfl rfl rfl rfl (fun _ => rfl) rfl (fun H2 w ⟨_, _, _, _, _, _, _, _, _, _, _, hb4, _⟩ => d_loadC Tryd.underlying26 rfl sz26 rfl ((At.of_blk hb4)) rfl)
   ·refine ⟨trivial, fun ph_ hp_ H2 w hW => ?_⟩
    obtain rfl := memN_one hp_
    replace hW : A2_1 H2 w := hW
    rw [hA2_1] at hW
    obtain ⟨hC, hib1, lob1, hb1, hib2, lob2, hb2, ne_b1_b2, hTg3, hib4, lob4, hb4, ne_b1_b4, ne_b2_b4, hTg5, hv1_1, hTg6, hv1_3, hib7, lob7, hb7, ne_b1_b7, ne_b2_b7, ne_b4_b7, hv1_4, _⟩ := hW
    refine ⟨(some true), _, rfl, rfl, Ok1.mono (ok_call c19 rfl (Knows_sl (W := ⟨false, false⟩) (known := [pubOf (Tm.mk 1 1 []), pubOf (Tm.mk 1 2 [])]) (t := Tm.mk 3 0 [Tm.mk 1 1 [], Tm.mk 1 2 []]) aw_k1 _ (hT0 _ _ (hC.below hw0.size (by simp)) hw0) rfl (by simp) hb7 (IsTs.two (IsT.sub (X := (b4 :: b2 :: b1 :: [])) (X' := []) hTg5 (by simp)) (IsT.sub (X := (b4 :: b2 :: b1 :: [])) (X' := []) hTg6 (by simp))) (IsT.sub (X := (b4 :: b2 :: b1 :: [])) (X' := []) hTg3 (by simp)))) ?_⟩
    rintro _ w' ⟨rfl, hg_⟩
    have hch_ : Ch [] _ w' := Gr.ch hg_
    have hC := hC.trans' hch_ (fun z hz => .inr (absurd hz (by simp)))
    have hib1 := hch_.lt hib1
    have hb1 := Ch.blk0 hch_ hb1 (by first | assumption | (simp; done) | (simp <;> omega))
    have hib2 := hch_.lt hib2
    have hb2 := Ch.blk0 hch_ hb2 (by first | assumption | (simp; done) | (simp <;> omega))
    have hTg3 : IsT w' (b4 :: b2 :: b1 :: []) (Tm.mk 3 0 [Tm.mk 1 1 [], Tm.mk 1 2 []]) [(vI 3), (vI 0), (vS g3 0 2 2)] := IsT.mv hch_ (by intro y hy; first | (simp at hy; done) | (simp at hy; subst hy; simp; done) | (simp [hy]; done)) (fun x hx => .inl hx) _ _ hTg3
    have hib4 := hch_.lt hib4
    have hb4 := Ch.blk0 hch_ hb4 (by first | assumption | (simp; done) | (simp <;> omega))
    have hTg5 : IsT w' (b4 :: b2 :: b1 :: []) (pubOf (Tm.mk 1 1 [])) [(vI 2), (vI 0), (vS (blk (H1 1)) 0 1 1)] := IsT.mv hch_ (by intro y hy; first | (simp at hy; done) | (simp at hy; subst hy; simp; done) | (simp [hy]; done)) (fun x hx => .inl hx) _ _ hTg5
    have hTg6 : IsT w' (b4 :: b2 :: b1 :: []) (pubOf (Tm.mk 1 2 [])) [(vI 2), (vI 0), (vS (blk (H1 3)) 0 1 1)] := IsT.mv hch_ (by intro y hy; first | (simp at hy; done) | (simp at hy; subst hy; simp; done) | (simp [hy]; done)) (fun x hx => .inl hx) _ _ hTg6
    have hib7 := hch_.lt hib7
    have hb7 := hb7.mv hch_ (by first | assumption | (simp; done) | (simp <;> omega))
    have hfin_ : A2_2 (updV H2 7 vf) w' := by rw [hA2_2]; exact ⟨hC, hib1, lob1, hb1, hib2, lob2, hb2, ne_b1_b2, hTg3, hib4, lob4, hb4, ne_b1_b4, ne_b2_b4, hTg5, hv1_1, hTg6, hv1_3, hib7, lob7, hb7, ne_b1_b7, ne_b2_b7, ne_b4_b7, hv1_4, trivial⟩
    exact fin_ rfl ⟨hfin_, rfl⟩
   ·exact HOb.pureG trivial rfl rfl (fun _ => rfl) rfl (fun _ _ => d_bool (c := true) (d_not (b := false) rfl) rfl)
   ·exact HOb.pure trivial rfl rfl (fun _ _ => d_pick (b := true) rfl rfl)
   ·exact HOb.pure trivial rfl rfl (fun _ _ => d_move rfl)
   ·exact HOb.pureG trivial rfl rfl (fun _ => rfl) rfl (fun _ _ => d_buildS (cells := #[vt, vf]) Tryd.underlying31 z31 (fun w => pl31 w _ Tryd.underlying31) rfl (by simp [Instr.fill, Value.cells]))
   ·exact HOb.pureG ⟨rfl, trivial⟩ rfl rfl (fun _ => rfl) rfl (fun _ _ => d_move rfl)
   ·exact HOb.factG hA2_2 ⟨rfl, trivial⟩ rfl rfl rfl rfl (fun _ => rfl) rfl (fun H2 w ⟨_, _, _, _, _, _, _, _, _, _, _, hb4, _⟩ => d_loadC Tryd.underlying26 rfl sz26 rfl ((At.of_blk hb4)) rfl)
   ·refine ⟨trivial, fun ph_ hp_ H2 w hW => ?_⟩
    obtain rfl := memN_one hp_
    replace hW : A2_2 H2 w := hW
    rw [hA2_2] at hW
    obtain ⟨hC, hib1, lob1, hb1, hib2, lob2, hb2, ne_b1_b2, hTg3, hib4, lob4, hb4, ne_b1_b4, ne_b2_b4, hTg5, hv1_1, hTg6, hv1_3, hib7, lob7, hb7, ne_b1_b7, ne_b2_b7, ne_b4_b7, hv1_4, _⟩ := hW
    refine ⟨(some true), _, rfl, rfl, Ok1.mono (ok_call c19 rfl (Knows_sl (W := ⟨true, false⟩) (known := [pubOf (Tm.mk 1 1 []), pubOf (Tm.mk 1 2 [])]) (t := Tm.mk 3 0 [Tm.mk 1 1 [], Tm.mk 1 2 []]) aw_k2 _ (hT0 _ _ (hC.below hw0.size (by simp)) hw0) rfl (by simp) hb7 (IsTs.two (IsT.sub (X := (b4 :: b2 :: b1 :: [])) (X' := []) hTg5 (by simp)) (IsT.sub (X := (b4 :: b2 :: b1 :: [])) (X' := []) hTg6 (by simp))) (IsT.sub (X := (b4 :: b2 :: b1 :: [])) (X' := []) hTg3 (by simp)))) ?_⟩
    rintro _ w' ⟨rfl, hg_⟩
    have hch_ : Ch [] _ w' := Gr.ch hg_
    have hC := hC.trans' hch_ (fun z hz => .inr (absurd hz (by simp)))
    have hib1 := hch_.lt hib1
    have hb1 := Ch.blk0 hch_ hb1 (by first | assumption | (simp; done) | (simp <;> omega))
    have hib2 := hch_.lt hib2
    have hb2 := Ch.blk0 hch_ hb2 (by first | assumption | (simp; done) | (simp <;> omega))
    have hTg3 : IsT w' (b4 :: b2 :: b1 :: []) (Tm.mk 3 0 [Tm.mk 1 1 [], Tm.mk 1 2 []]) [(vI 3), (vI 0), (vS g3 0 2 2)] := IsT.mv hch_ (by intro y hy; first | (simp at hy; done) | (simp at hy; subst hy; simp; done) | (simp [hy]; done)) (fun x hx => .inl hx) _ _ hTg3
    have hib4 := hch_.lt hib4
    have hb4 := Ch.blk0 hch_ hb4 (by first | assumption | (simp; done) | (simp <;> omega))
    have hTg5 : IsT w' (b4 :: b2 :: b1 :: []) (pubOf (Tm.mk 1 1 [])) [(vI 2), (vI 0), (vS (blk (H1 1)) 0 1 1)] := IsT.mv hch_ (by intro y hy; first | (simp at hy; done) | (simp at hy; subst hy; simp; done) | (simp [hy]; done)) (fun x hx => .inl hx) _ _ hTg5
    have hTg6 : IsT w' (b4 :: b2 :: b1 :: []) (pubOf (Tm.mk 1 2 [])) [(vI 2), (vI 0), (vS (blk (H1 3)) 0 1 1)] := IsT.mv hch_ (by intro y hy; first | (simp at hy; done) | (simp at hy; subst hy; simp; done) | (simp [hy]; done)) (fun x hx => .inl hx) _ _ hTg6
    have hib7 := hch_.lt hib7
    have hb7 := hb7.mv hch_ (by first | assumption | (simp; done) | (simp <;> omega))
    have hfin_ : A2_3 (updV H2 14 vt) w' := by rw [hA2_3]; exact ⟨hC, hib1, lob1, hb1, hib2, lob2, hb2, ne_b1_b2, hTg3, hib4, lob4, hb4, ne_b1_b4, ne_b2_b4, hTg5, hv1_1, hTg6, hv1_3, hib7, lob7, hb7, ne_b1_b7, ne_b2_b7, ne_b4_b7, hv1_4, trivial⟩
    exact fin_ rfl ⟨hfin_, rfl⟩
   ·exact HOb.pure trivial rfl rfl (fun _ _ => d_pick (b := true) rfl rfl)
   ·exact HOb.pure trivial rfl rfl (fun _ _ => d_move rfl)
   ·exact HOb.pureG trivial rfl rfl (fun _ => rfl) rfl (fun _ _ => d_buildS (cells := #[vf, vf]) Tryd.underlying31 z31 (fun w => pl31 w _ Tryd.underlying31) rfl (by simp [Instr.fill, Value.cells]))
   ·refine ⟨⟨rfl, trivial⟩, fun ph_ hp_ H2 w hW => ?_⟩
    rcases memN_or hp_ with rfl | hp_
    ·have hW0 := hW
     replace hW : A2_3 H2 w := hW
     rw [hA2_3] at hW
     obtain ⟨hC, hib1, lob1, hb1, hib2, lob2, hb2, ne_b1_b2, hTg3, hib4, lob4, hb4, ne_b1_b4, ne_b2_b4, hTg5, hv1_1, hTg6, hv1_3, hib7, lob7, hb7, ne_b1_b7, ne_b2_b7, ne_b4_b7, hv1_4, _⟩ := hW
     exact ⟨(some true), _, rfl, rfl, Det.ohc rfl hW0 (d_loadC Tryd.underlying26 rfl sz26 rfl ((At.of_blk hb1)) rfl)⟩
    obtain rfl := memN_one hp_
    ·have hW0 := hW
     replace hW : A2_4 H2 w := hW
     rw [hA2_4] at hW
     obtain ⟨hC, hib1, lob1, hb1, hib2, lob2, hb2, ne_b1_b2, hTg3, hib4, lob4, hb4, ne_b1_b4, ne_b2_b4, hTg5, hv1_1, hTg6, hv1_3, hib7, lob7, hb7, ne_b1_b7, ne_b2_b7, ne_b4_b7, hv1_4, hTg8, hv2_20, _⟩ := hW
     exact ⟨(some true), _, rfl, rfl, Det.ohc rfl hW0 (d_loadC Tryd.underlying26 rfl sz26 rfl ((At.of_blk hb1)) rfl)⟩
   ·exact HOb.factG hA2_3 ⟨rfl, trivial⟩ rfl rfl rfl rfl (fun _ => rfl) rfl (fun H2 w ⟨_, _, _, _, _, _, hb2, _⟩ => d_loadC Tryd.underlying26 rfl sz26 rfl ((At.of_blk hb2)) rfl)
   ·refine ⟨trivial, fun ph_ hp_ H2 w hW => ?_⟩
    obtain rfl := memN_one hp_
    replace hW : A2_3 H2 w := hW
    rw [hA2_3] at hW
    obtain ⟨hC, hib1, lob1, hb1, hib2, lob2, hb2, ne_b1_b2, hTg3, hib4, lob4, hb4, ne_b1_b4, ne_b2_b4, hTg5, hv1_1, hTg6, hv1_3, hib7, lob7, hb7, ne_b1_b7, ne_b2_b7, ne_b4_b7, hv1_4, _⟩ := hW
    have hX_ : ∀ x, x ∈ (b4 :: b2 :: b1 :: []) → x < w.heap.size := by
     intro x hx
     simp only [List.mem_cons, List.not_mem_nil, or_false] at hx
     rcases hx with rfl | rfl | rfl
     ·exact hib4
     ·exact hib2
     ·exact hib1
    refine ⟨(some true), _, rfl, rfl, Ok1.mono (ok_call c20 rfl (pubL_calls (X := (b4 :: b2 :: b1 :: [])) (a := Tm.mk 1 2 []) _ hX_ (isT_atom _ _ _))) ?_⟩
    rintro _ w' ⟨g8, rfl, hTg8, hg_⟩
    have hch_ : Ch [] _ w' := Gr.ch hg_
    have hC := hC.trans' hch_ (fun z hz => .inr (absurd hz (by simp)))
    have hib1 := hch_.lt hib1
    have hb1 := Ch.blk0 hch_ hb1 (by first | assumption | (simp; done) | (simp <;> omega))
    have hib2 := hch_.lt hib2
    have hb2 := Ch.blk0 hch_ hb2 (by first | assumption | (simp; done) | (simp <;> omega))
    have hTg3 : IsT w' (b4 :: b2 :: b1 :: []) (Tm.mk 3 0 [Tm.mk 1 1 [], Tm.mk 1 2 []]) [(vI 3), (vI 0), (vS g3 0 2 2)] := IsT.mv hch_ (by intro y hy; first | (simp at hy; done) | (simp at hy; subst hy; simp; done) | (simp [hy]; done)) (fun x hx => .inl hx) _ _ hTg3
    have hib4 := hch_.lt hib4
    have hb4 := Ch.blk0 hch_ hb4 (by first | assumption | (simp; done) | (simp <;> omega))
    have hTg5 : IsT w' (b4 :: b2 :: b1 :: []) (pubOf (Tm.mk 1 1 [])) [(vI 2), (vI 0), (vS (blk (H1 1)) 0 1 1)] := IsT.mv hch_ (by intro y hy; first | (simp at hy; done) | (simp at hy; subst hy; simp; done) | (simp [hy]; done)) (fun x hx => .inl hx) _ _ hTg5
    have hTg6 : IsT w' (b4 :: b2 :: b1 :: []) (pubOf (Tm.mk 1 2 [])) [(vI 2), (vI 0), (vS (blk (H1 3)) 0 1 1)] := IsT.mv hch_ (by intro y hy; first | (simp at hy; done) | (simp at hy; subst hy; simp; done) | (simp [hy]; done)) (fun x hx => .inl hx) _ _ hTg6
    have hib7 := hch_.lt hib7
    have hb7 := hb7.mv hch_ (by first | assumption | (simp; done) | (simp <;> omega))
    have hfin_ : A2_4 (updV H2 20 (Value.agg #[(vI 2), (vI 0), (vS g8 0 1 1)])) w' := by rw [hA2_4]; exact ⟨hC, hib1, lob1, hb1, hib2, lob2, hb2, ne_b1_b2, hTg3, hib4, lob4, hb4, ne_b1_b4, ne_b2_b4, hTg5, hv1_1, hTg6, hv1_3, hib7, lob7, hb7, ne_b1_b7, ne_b2_b7, ne_b4_b7, hv1_4, hTg8, rfl, trivial⟩
    exact fin_ rfl ⟨hfin_, rfl⟩
   ·refine ⟨trivial, fun ph_ hp_ H2 w hW => ?_⟩
    obtain rfl := memN_one hp_
    replace hW : A2_4 H2 w := hW
    rw [hA2_4] at hW
    obtain ⟨hC, hib1, lob1, hb1, hib2, lob2, hb2, ne_b1_b2, hTg3, hib4, lob4, hb4, ne_b1_b4, ne_b2_b4, hTg5, hv1_1, hTg6, hv1_3, hib7, lob7, hb7, ne_b1_b7, ne_b2_b7, ne_b4_b7, hv1_4, hTg8, hv2_20, _⟩ := hW
    refine ⟨(some true), _, rfl, rfl, Ok1.sub (L' := [(31, vt), (33, (Value.agg #[(vI 1), (vI 1), vN])), (35, (Value.agg #[(vI 2), (vI 0), (vS (blk (H2 20)) 0 1 1)]))]) ⟨rfl, rfl, congrArg some hv2_20, trivial⟩ (Ok1.mono (ok_buildSlice (cells := #[(vI 1), (vI 1), vN, (vI 2), (vI 0), (vS (blk (H2 20)) 0 1 1)]) Tryd.underlying24 zz26 rfl (by decide) (by decide) (by exact fillT2)) ?_)⟩
    rintro _ w' ⟨b9, rfl, hnb_⟩
    have hch_ : Ch [] _ w' := hnb_.ch
    have lo_ := hnb_.lo hC.size
    have ne_b1_b9 := hnb_.gt hib1
    have ne_b2_b9 := hnb_.gt hib2
    have ne_b4_b9 := hnb_.gt hib4
    have ne_b7_b9 := hnb_.gt hib7
    have hC := hC.trans' hch_ (fun z hz => .inr (absurd hz (by simp)))
    have hib1 := hch_.lt hib1
    have hb1 := Ch.blk0 hch_ hb1 (by first | assumption | (simp; done) | (simp <;> omega))
    have hib2 := hch_.lt hib2
    have hb2 := Ch.blk0 hch_ hb2 (by first | assumption | (simp; done) | (simp <;> omega))
    have hTg3 : IsT w' (b4 :: b2 :: b1 :: []) (Tm.mk 3 0 [Tm.mk 1 1 [], Tm.mk 1 2 []]) [(vI 3), (vI 0), (vS g3 0 2 2)] := IsT.mv hch_ (by intro y hy; first | (simp at hy; done) | (simp at hy; subst hy; simp; done) | (simp [hy]; done)) (fun x hx => .inl hx) _ _ hTg3
    have hib4 := hch_.lt hib4
    have hb4 := Ch.blk0 hch_ hb4 (by first | assumption | (simp; done) | (simp <;> omega))
    have hTg5 : IsT w' (b4 :: b2 :: b1 :: []) (pubOf (Tm.mk 1 1 [])) [(vI 2), (vI 0), (vS (blk (H1 1)) 0 1 1)] := IsT.mv hch_ (by intro y hy; first | (simp at hy; done) | (simp at hy; subst hy; simp; done) | (simp [hy]; done)) (fun x hx => .inl hx) _ _ hTg5
    have hTg6 : IsT w' (b4 :: b2 :: b1 :: []) (pubOf (Tm.mk 1 2 [])) [(vI 2), (vI 0), (vS (blk (H1 3)) 0 1 1)] := IsT.mv hch_ (by intro y hy; first | (simp at hy; done) | (simp at hy; subst hy; simp; done) | (simp [hy]; done)) (fun x hx => .inl hx) _ _ hTg6
    have hib7 := hch_.lt hib7
    have hb7 := hb7.mv hch_ (by first | assumption | (simp; done) | (simp <;> omega))
    have hTg8 : IsT w' (b4 :: b2 :: b1 :: []) (pubOf (Tm.mk 1 2 [])) [(vI 2), (vI 0), (vS (blk (H2 20)) 0 1 1)] := IsT.mv hch_ (by intro y hy; first | (simp at hy; done) | (simp at hy; subst hy; simp; done) | (simp [hy]; done)) (fun x hx => .inl hx) _ _ hTg8
    have hib9 : b9 < w'.heap.size := hnb_.lt
    have lob9 : w0.heap.size ≤ b9 := lo_
    have hb9 : At w' b9 0 [(vI 1), (vI 1), vN, (vI 2), (vI 0), (vS (blk (H2 20)) 0 1 1)] := hnb_.at
    have ne_b1_b9 : b1 < b9 := ne_b1_b9
    have ne_b2_b9 : b2 < b9 := ne_b2_b9
    have ne_b4_b9 : b4 < b9 := ne_b4_b9
    have ne_b7_b9 : (blk (H1 4)) < b9 := ne_b7_b9
    have hfin_ : A2_5 (updV H2 21 (vS b9 0 2 2)) w' := by rw [hA2_5]; exact ⟨hC, hib1, lob1, hb1, hib2, lob2, hb2, ne_b1_b2, hTg3, hib4, lob4, hb4, ne_b1_b4, ne_b2_b4, hTg5, hv1_1, hTg6, hv1_3, hib7, lob7, hb7, ne_b1_b7, ne_b2_b7, ne_b4_b7, hv1_4, hTg8, hv2_20, hib9, lob9, hb9, ne_b1_b9, ne_b2_b9, ne_b4_b9, ne_b7_b9, rfl, trivial⟩
    exact fin_ rfl ⟨hfin_, rfl⟩
   ·refine ⟨⟨rfl, trivial⟩, fun ph_ hp_ H2 w hW => ?_⟩
    rcases memN_or hp_ with rfl | hp_
    ·have hW0 := hW
     replace hW : A2_3 H2 w := hW
     rw [hA2_3] at hW
     obtain ⟨hC, hib1, lob1, hb1, hib2, lob2, hb2, ne_b1_b2, hTg3, hib4, lob4, hb4, ne_b1_b4, ne_b2_b4, hTg5, hv1_1, hTg6, hv1_3, hib7, lob7, hb7, ne_b1_b7, ne_b2_b7, ne_b4_b7, hv1_4, _⟩ := hW
     exact ⟨(some true), _, rfl, rfl, Det.ohc rfl hW0 (d_loadC Tryd.underlying26 rfl sz26 rfl ((At.of_blk hb4)) rfl)⟩
    rcases memN_or hp_ with rfl | hp_
    ·have hW0 := hW
     replace hW : A2_4 H2 w := hW
     rw [hA2_4] at hW
     obtain ⟨hC, hib1, lob1, hb1, hib2, lob2, hb2, ne_b1_b2, hTg3, hib4, lob4, hb4, ne_b1_b4, ne_b2_b4, hTg5, hv1_1, hTg6, hv1_3, hib7, lob7, hb7, ne_b1_b7, ne_b2_b7, ne_b4_b7, hv1_4, hTg8, hv2_20, _⟩ := hW
     exact ⟨(some true), _, rfl, rfl, Det.ohc rfl hW0 (d_loadC Tryd.underlying26 rfl sz26 rfl ((At.of_blk hb4)) rfl)⟩
    obtain rfl := memN_one hp_
    ·have hW0 := hW
     replace hW : A2_5 H2 w := hW
     rw [hA2_5] at hW
     obtain ⟨hC, hib1, lob1, hb1, hib2, lob2, hb2, ne_b1_b2, hTg3, hib4, lob4, hb4, ne_b1_b4, ne_b2_b4, hTg5, hv1_1, hTg6, hv1_3, hib7, lob7, hb7, ne_b1_b7, ne_b2_b7, ne_b4_b7, hv1_4, hTg8, hv2_20, hib9, lob9, hb9, ne_b1_b9, ne_b2_b9, ne_b4_b9, ne_b7_b9, hv2_21, _⟩ := hW
     exact ⟨(some true), _, rfl, rfl, Det.ohc rfl hW0 (d_loadC Tryd.underlying26 rfl sz26 rfl ((At.of_blk hb4)) rfl)⟩
   ·refine ⟨trivial, fun ph_ hp_ H2 w hW => ?_⟩
    obtain rfl := memN_one hp_
    replace hW : A2_5 H2 w := hW
    rw [hA2_5] at hW
    obtain ⟨hC, hib1, lob1, hb1, hib2, lob2, hb2, ne_b1_b2, hTg3, hib4, lob4, hb4, ne_b1_b4, ne_b2_b4, hTg5, hv1_1, hTg6, hv1_3, hib7, lob7, hb7, ne_b1_b7, ne_b2_b7, ne_b4_b7, hv1_4, hTg8, hv2_20, hib9, lob9, hb9, ne_b1_b9, ne_b2_b9, ne_b4_b9, ne_b7_b9, hv2_21, _⟩ := hW
    refine ⟨(some true), _, rfl, rfl, Ok1.sub (L' := [(31, vt), (32, (Value.agg #[vf, vf])), (36, (vS (blk (H2 21)) 0 2 2)), (37, (Value.agg #[(vI 3), (vI 0), (vS g3 0 2 2)]))]) ⟨rfl, rfl, congrArg some hv2_21, rfl, trivial⟩ (Ok1.mono (ok_call c19 rfl (Knows_sl (W := ⟨false, false⟩) (known := [Tm.mk 1 1 [], pubOf (Tm.mk 1 2 [])]) (t := Tm.mk 3 0 [Tm.mk 1 1 [], Tm.mk 1 2 []]) aw_k3 _ (hT0 _ _ (hC.below hw0.size (by simp)) hw0) rfl (by simp) hb9 (IsTs.two (IsT.sub (X := (b4 :: b2 :: b1 :: [])) (X' := []) (isT_atom _ _ _) (by simp)) (IsT.sub (X := (b4 :: b2 :: b1 :: [])) (X' := []) hTg8 (by simp))) (IsT.sub (X := (b4 :: b2 :: b1 :: [])) (X' := []) hTg3 (by simp)))) ?_)⟩
    rintro _ w' ⟨rfl, hg_⟩
    have hch_ : Ch [] _ w' := Gr.ch hg_
    have hC := hC.trans' hch_ (fun z hz => .inr (absurd hz (by simp)))
    have hib1 := hch_.lt hib1
    have hb1 := Ch.blk0 hch_ hb1 (by first | assumption | (simp; done) | (simp <;> omega))
    have hib2 := hch_.lt hib2
    have hb2 := Ch.blk0 hch_ hb2 (by first | assumption | (simp; done) | (simp <;> omega))
    have hTg3 : IsT w' (b4 :: b2 :: b1 :: []) (Tm.mk 3 0 [Tm.mk 1 1 [], Tm.mk 1 2 []]) [(vI 3), (vI 0), (vS g3 0 2 2)] := IsT.mv hch_ (by intro y hy; first | (simp at hy; done) | (simp at hy; subst hy; simp; done) | (simp [hy]; done)) (fun x hx => .inl hx) _ _ hTg3
    have hib4 := hch_.lt hib4
    have hb4 := Ch.blk0 hch_ hb4 (by first | assumption | (simp; done) | (simp <;> omega))
    have hTg5 : IsT w' (b4 :: b2 :: b1 :: []) (pubOf (Tm.mk 1 1 [])) [(vI 2), (vI 0), (vS (blk (H1 1)) 0 1 1)] := IsT.mv hch_ (by intro y hy; first | (simp at hy; done) | (simp at hy; subst hy; simp; done) | (simp [hy]; done)) (fun x hx => .inl hx) _ _ hTg5
    have hTg6 : IsT w' (b4 :: b2 :: b1 :: []) (pubOf (Tm.mk 1 2 [])) [(vI 2), (vI 0), (vS (blk (H1 3)) 0 1 1)] := IsT.mv hch_ (by intro y hy; first | (simp at hy; done) | (simp at hy; subst hy; simp; done) | (simp [hy]; done)) (fun x hx => .inl hx) _ _ hTg6
    have hib7 := hch_.lt hib7
    have hb7 := hb7.mv hch_ (by first | assumption | (simp; done) | (simp <;> omega))
    have hTg8 : IsT w' (b4 :: b2 :: b1 :: []) (pubOf (Tm.mk 1 2 [])) [(vI 2), (vI 0), (vS (blk (H2 20)) 0 1 1)] := IsT.mv hch_ (by intro y hy; first | (simp at hy; done) | (simp at hy; subst hy; simp; done) | (simp [hy]; done)) (fun x hx => .inl hx) _ _ hTg8
    have hib9 := hch_.lt hib9
    have hb9 := hb9.mv hch_ (by first | assumption | (simp; done) | (simp <;> omega))
    have hfin_ : A2_6 (updV H2 23 vt) w' := by rw [hA2_6]; exact ⟨hC, hib1, lob1, hb1, hib2, lob2, hb2, ne_b1_b2, hTg3, hib4, lob4, hb4, ne_b1_b4, ne_b2_b4, hTg5, hv1_1, hTg6, hv1_3, hib7, lob7, hb7, ne_b1_b7, ne_b2_b7, ne_b4_b7, hv1_4, hTg8, hv2_20, hib9, lob9, hb9, ne_b1_b9, ne_b2_b9, ne_b4_b9, ne_b7_b9, hv2_21, trivial⟩
    exact fin_ rfl ⟨hfin_, rfl⟩
   ·exact HOb.pure trivial rfl rfl (fun _ _ => d_pick (b := true) rfl rfl)
   ·exact HOb.pure trivial rfl rfl (fun _ _ => d_assign rfl)
  ·intro ac w H2 hW hF
   replace hW : A2_6 H2 w := hW
   rw [hA2_6] at hW
   obtain ⟨hC, hib1, lob1, hb1, hib2, lob2, hb2, ne_b1_b2, hTg3, hib4, lob4, hb4, ne_b1_b4, ne_b2_b4, hTg5, hv1_1, hTg6, hv1_3, hib7, lob7, hb7, ne_b1_b7, ne_b2_b7, ne_b4_b7, hv1_4, hTg8, hv2_20, hib9, lob9, hb9, ne_b1_b9, ne_b2_b9, ne_b4_b9, ne_b7_b9, hv2_21, _⟩ := hW
   clear hA2_0 A2_0 hA2_1 A2_1 hA2_2 A2_2 hA2_3 A2_3 hA2_4 A2_4 hA2_5 A2_5 hA2_6 A2_6
   have hF := hF.sub (L' := [(0, vt), (1, (vp b1)), (2, (vp b2)), (3, (vp b4)), (4, (vS (blk (H1 4)) 0 2 2))]) ⟨rfl, rfl, rfl, rfl, rfl, trivial⟩
   refine then_n ?_
   refine wp_ret ?_
   refine body_ret hF (results1 Tryd.results15 (RV.tmp hF rfl)) ?_
   exact ⟨rfl, hC.gr⟩
end Go.Mi.Term
