/- Walks: what the laws' own functions return. -/
import Derived.Test.YtoefhjabaanokaaDoorV2
import Derived.Test.YtoefhjabaanokaaDoorB8
import Derived.Test.YtoefhjabaanokaaDoorB2
namespace Go.Mi.Term
open Go.Mi Go.Proofs Go.RowKit
set_option linter.unusedVariables false
def sh1 (a : Bool) : List Tm := ([] : List Tm) ++ (bif a then [Tm.mk 1 1 []] else [])
def sh2 (a b : Bool) : List Tm := (sh1 a) ++ (bif b then [Tm.mk 1 2 []] else [])
def sh3 (a b pa : Bool) : List Tm := (sh2 a b) ++ (bif pa then [pubOf (Tm.mk 1 1 [])] else [])
def sh4 (a b pa pb : Bool) : List Tm := (sh3 a b pa) ++ (bif pb then [pubOf (Tm.mk 1 2 [])] else [])
theorem shares_1 (a b pa pb dh : Bool) : knows ⟨dh, false⟩ 60 60 (sh4 a b pa pb) (Tm.mk 3 0 [Tm.mk 1 2 [], Tm.mk 1 1 []]) = some (a && (b || pb) || b && (a || pa) || dh && (a || pa) && (b || pb)) := by
 cases a <;> cases b <;> cases pa <;> cases pb <;> cases dh <;> decide +kernel
theorem shares_2 (a b pa pb dh : Bool) : knows ⟨dh, false⟩ 60 60 (sh4 a b pa pb) (pubOf (Tm.mk 1 1 [])) = some (a || pa) := by
 cases a <;> cases b <;> cases pa <;> cases pb <;> cases dh <;> decide +kernel
theorem shares_3 (a b pa pb dh : Bool) : knows ⟨dh, false⟩ 60 60 ((sh4 a b pa pb) ++ [Tm.mk 3 0 [Tm.mk 1 2 [], Tm.mk 1 1 []]]) (Tm.mk 1 1 []) = some a := by
 cases a <;> cases b <;> cases pa <;> cases pb <;> cases dh <;> decide +kernel

def shv61 (a b pa pb dh : Bool) : Value := gsel (vB a) true ((vB (b || pb)))
def shv62 (a b pa pb dh : Bool) : Value := psel (vB a) (shv61 a b pa pb dh) vf
def shv64 (a b pa pb dh : Bool) : Value := gsel (shv62 a b pa pb dh) false ((vB b))
def shv65 (a b pa pb dh : Bool) : Value := gsel (shv62 a b pa pb dh) false ((shv64 a b pa pb dh))
def shv66 (a b pa pb dh : Bool) : Value := gsel (shv65 a b pa pb dh) true ((vB (a || pa)))
def shv67 (a b pa pb dh : Bool) : Value := gsel (shv62 a b pa pb dh) false (psel (shv65 a b pa pb dh) (shv66 a b pa pb dh) vf)
def shv68 (a b pa pb dh : Bool) : Value := psel (shv62 a b pa pb dh) vt (shv67 a b pa pb dh)
def shv70 (a b pa pb dh : Bool) : Value := gsel (shv68 a b pa pb dh) false ((vB dh))
def shv71 (a b pa pb dh : Bool) : Value := gsel (shv68 a b pa pb dh) false ((shv70 a b pa pb dh))
def shv72 (a b pa pb dh : Bool) : Value := gsel (shv71 a b pa pb dh) true ((vB (a || pa)))
def shv73 (a b pa pb dh : Bool) : Value := gsel (shv68 a b pa pb dh) false (psel (shv71 a b pa pb dh) (shv72 a b pa pb dh) vf)
def shv74 (a b pa pb dh : Bool) : Value := gsel (shv68 a b pa pb dh) false ((shv73 a b pa pb dh))
def shv75 (a b pa pb dh : Bool) : Value := gsel (shv74 a b pa pb dh) true ((vB (b || pb)))
def shv76 (a b pa pb dh : Bool) : Value := gsel (shv68 a b pa pb dh) false (psel (shv74 a b pa pb dh) (shv75 a b pa pb dh) vf)
def shv77 (a b pa pb dh : Bool) : Value := psel (shv68 a b pa pb dh) vt (shv76 a b pa pb dh)
set_option maxRecDepth 100000 in
set_option maxHeartbeats 4000000 in
theorem shares_walk (a b pa pb dh : Bool) (w0 : World) (hw0 : T0 w0) : Calls Tryd.prog 6 (List.toArray [.bool a, .bool b, .bool pa, .bool pb, .bool dh]) w0 (Ret fun v w' => v = .bool true ∧ Gr w0 w') := by
 refine calls_of Tryd.func6 rfl Tryd.ntmps6 rfl fun ac hF => ?_
 have hC : Ch [] w0 w0 := Ch.refl _ _
 have hF := hF.sub (L' := [(0, (vB a)), (1, (vB b)), (2, (vB pa)), (3, (vB pb)), (4, (vB dh))]) ⟨rfl, rfl, rfl, rfl, rfl, trivial⟩
 refine wp_seq ?_
 refine wp_region_lit ?_
 refine wl (d_assign rfl) rfl hF (fun ac hF => ?_)
 refine wl_nil ?_
 refine then_n ?_
 refine wp_seq ?_
 refine wp_region_lit ?_
 refine wlR (ok_call c16 rfl (atom_calls _)) rfl hF ?_
 rintro _ w ac ⟨rfl, hg_⟩ hF
 have hch_ : Ch [] _ w := Gr.ch hg_
 have hC := hC.trans' hch_ (fun z hz => .inr (absurd hz (by simp)))
 refine wlR (ok_call c16 rfl (atom_calls _)) rfl hF ?_
 rintro _ w ac ⟨rfl, hg_⟩ hF
 have hch_ : Ch [] _ w := Gr.ch hg_
 have hC := hC.trans' hch_ (fun z hz => .inr (absurd hz (by simp)))
 refine wlR (ok_alloc z26) rfl hF ?_
 rintro _ w ac ⟨b1, rfl, hnb_⟩ hF
 have hch_ : Ch [] _ w := hnb_.ch
 have lo_ := hnb_.lo hC.size
 have hC := hC.trans' hch_ (fun z hz => .inr (absurd hz (by simp)))
 have hib1 : b1 < w.heap.size := hnb_.lt
 have lob1 : w0.heap.size ≤ b1 := lo_
 have hb1 : w.heap[b1]? = some (.cells #[(vI 0), (vI 0), vN] 26 (0, 0)) := hnb_.blk
 refine wlR (ok_alloc z26) rfl hF ?_
 rintro _ w ac ⟨b2, rfl, hnb_⟩ hF
 have hch_ : Ch [] _ w := hnb_.ch
 have lo_ := hnb_.lo hC.size
 have ne_b1_b2 := hnb_.gt hib1
 have hC := hC.trans' hch_ (fun z hz => .inr (absurd hz (by simp)))
 have hib1 := hch_.lt hib1
 have hb1 := Ch.blk0 hch_ hb1 (by first | assumption | (simp; done) | (simp <;> omega))
 have hib2 : b2 < w.heap.size := hnb_.lt
 have lob2 : w0.heap.size ≤ b2 := lo_
 have hb2 : w.heap[b2]? = some (.cells #[(vI 0), (vI 0), vN] 26 (0, 0)) := hnb_.blk
 have ne_b1_b2 : b1 < b2 := ne_b1_b2
 refine wl0R (ok_storeA (c' := #[(vI 1), (vI 1), vN]) sz26 rfl rfl rfl (fun v hv => by simp at hv; rcases hv with rfl | rfl | rfl <;> rfl) hb1 rfl) hF ?_
 rintro w ac hu_ hF
 have hch_ : Ch [b1] _ w := hu_.ch
 have hC := hC.trans' hch_ (fun z hz => .inr ((by simp at hz; subst hz; assumption)))
 have hib1 := hch_.lt hib1
 have hib2 := hch_.lt hib2
 have hb2 := Ch.blk0 hch_ hb2 (by first | assumption | (simp; done) | (simp <;> omega))
 have hb1 : w.heap[b1]? = some (.cells #[(vI 1), (vI 1), vN] 26 (0, 0)) := hu_.blk
 refine wl0R (ok_storeA (c' := #[(vI 1), (vI 2), vN]) sz26 rfl rfl rfl (fun v hv => by simp at hv; rcases hv with rfl | rfl | rfl <;> rfl) hb2 rfl) hF ?_
 rintro w ac hu_ hF
 have hch_ : Ch [b2] _ w := hu_.ch
 have hC := hC.trans' hch_ (fun z hz => .inr ((by simp at hz; subst hz; assumption)))
 have hib1 := hch_.lt hib1
 have hb1 := Ch.blk0 hch_ hb1 (by first | assumption | (simp; done) | (simp <;> omega))
 have hib2 := hch_.lt hib2
 have hb2 : w.heap[b2]? = some (.cells #[(vI 1), (vI 2), vN] 26 (0, 0)) := hu_.blk
 refine wl_nil ?_
 refine then_n ?_
 refine wp_seq ?_
 refine wp_region_lit ?_
 refine wl (d_assign rfl) rfl hF (fun ac hF => ?_)
 refine wl_nil ?_
 have hown : Own w w0.heap.size 26 3 vN 0 [] := Own.nil _ _ _ _
 have hts : IsTs w (b2 :: b1 :: oblk vN) ([] : List Tm) ([] : List Value) := by simp [IsTs]
 have hnob2 : b2 ∉ oblk vN := by simp [oblk]
 have hnob1 : b1 ∉ oblk vN := by simp [oblk]
 refine then_n ?_
 refine wp_seq ?_
 refine wp_seq ?_
 refine wp_region_lit ?_
 refine wl (d_move rfl) rfl hF (fun ac hF => ?_)
 refine wl_nil ?_
 refine then_n ?_
 refine wp_join (fun ac w => ∃ (lv : Value) (xs : List Value), Frm ac 104 [(0, (vB a)), (1, (vB b)), (2, (vB pa)), (3, (vB pb)), (4, (vB dh)), (10, vf), (11, (vp b1)), (12, (vp b2)), (13, lv), (20, (vB a))] ∧ ((sh1 a).length ≤ 2) ∧ (Ch [] w0 w) ∧ (b1 < w.heap.size) ∧ (w0.heap.size ≤ b1) ∧ (w.heap[b1]? = some (.cells #[(vI 1), (vI 1), vN] 26 (0, 0))) ∧ (b2 < w.heap.size) ∧ (w0.heap.size ≤ b2) ∧ (w.heap[b2]? = some (.cells #[(vI 1), (vI 2), vN] 26 (0, 0))) ∧ (Own w w0.heap.size 26 3 lv (sh1 a).length xs) ∧ (IsTs w (b2 :: b1 :: oblk lv) (sh1 a) xs) ∧ (b2 ∉ oblk lv) ∧ (b1 ∉ oblk lv) ∧ True) ?_ ?_
 rotate_left
 ·rintro ac w ⟨lv, xs, hF, hln, ⟨hC, hib1, lob1, hb1, hib2, lob2, hb2, hown, hts, hnob2, hnob1, _⟩⟩
  refine wp_seq ?_
  refine wp_seq ?_
  refine wp_region_lit ?_
  refine wl (d_move rfl) rfl hF (fun ac hF => ?_)
  refine wl_nil ?_
  refine then_n ?_
  refine wp_join (fun ac w => ∃ (lv : Value) (xs : List Value), Frm ac 104 [(0, (vB a)), (1, (vB b)), (2, (vB pa)), (3, (vB pb)), (4, (vB dh)), (10, vf), (11, (vp b1)), (12, (vp b2)), (13, lv), (20, (vB a)), (25, (vB b))] ∧ ((sh2 a b).length ≤ 3) ∧ (Ch [] w0 w) ∧ (b1 < w.heap.size) ∧ (w0.heap.size ≤ b1) ∧ (w.heap[b1]? = some (.cells #[(vI 1), (vI 1), vN] 26 (0, 0))) ∧ (b2 < w.heap.size) ∧ (w0.heap.size ≤ b2) ∧ (w.heap[b2]? = some (.cells #[(vI 1), (vI 2), vN] 26 (0, 0))) ∧ (Own w w0.heap.size 26 3 lv (sh2 a b).length xs) ∧ (IsTs w (b2 :: b1 :: oblk lv) (sh2 a b) xs) ∧ (b2 ∉ oblk lv) ∧ (b1 ∉ oblk lv) ∧ True) ?_ ?_
  rotate_left
  ·rintro ac w ⟨lv, xs, hF, hln, ⟨hC, hib1, lob1, hb1, hib2, lob2, hb2, hown, hts, hnob2, hnob1, _⟩⟩
   refine wp_seq ?_
   refine wp_seq ?_
   refine wp_region_lit ?_
   refine wl (d_move rfl) rfl hF (fun ac hF => ?_)
   refine wl_nil ?_
   refine then_n ?_
   refine wp_join (fun ac w => ∃ (lv : Value) (xs : List Value), Frm ac 104 [(0, (vB a)), (1, (vB b)), (2, (vB pa)), (3, (vB pb)), (4, (vB dh)), (10, vf), (11, (vp b1)), (12, (vp b2)), (13, lv), (20, (vB a)), (25, (vB b)), (30, (vB pa))] ∧ ((sh3 a b pa).length ≤ 4) ∧ (Ch [] w0 w) ∧ (b1 < w.heap.size) ∧ (w0.heap.size ≤ b1) ∧ (w.heap[b1]? = some (.cells #[(vI 1), (vI 1), vN] 26 (0, 0))) ∧ (b2 < w.heap.size) ∧ (w0.heap.size ≤ b2) ∧ (w.heap[b2]? = some (.cells #[(vI 1), (vI 2), vN] 26 (0, 0))) ∧ (Own w w0.heap.size 26 3 lv (sh3 a b pa).length xs) ∧ (IsTs w (b2 :: b1 :: oblk lv) (sh3 a b pa) xs) ∧ (b2 ∉ oblk lv) ∧ (b1 ∉ oblk lv) ∧ True) ?_ ?_
   rotate_left
   ·rintro ac w ⟨lv, xs, hF, hln, ⟨hC, hib1, lob1, hb1, hib2, lob2, hb2, hown, hts, hnob2, hnob1, _⟩⟩
    refine wp_seq ?_
    refine wp_seq ?_
    refine wp_region_lit ?_
    refine wl (d_move rfl) rfl hF (fun ac hF => ?_)
    refine wl_nil ?_
    refine then_n ?_
    refine wp_join (fun ac w => ∃ (lv : Value) (xs : List Value), Frm ac 104 [(0, (vB a)), (1, (vB b)), (2, (vB pa)), (3, (vB pb)), (4, (vB dh)), (10, vf), (11, (vp b1)), (12, (vp b2)), (13, lv), (20, (vB a)), (25, (vB b)), (30, (vB pa)), (36, (vB pb))] ∧ ((sh4 a b pa pb).length ≤ 5) ∧ (Ch [] w0 w) ∧ (b1 < w.heap.size) ∧ (w0.heap.size ≤ b1) ∧ (w.heap[b1]? = some (.cells #[(vI 1), (vI 1), vN] 26 (0, 0))) ∧ (b2 < w.heap.size) ∧ (w0.heap.size ≤ b2) ∧ (w.heap[b2]? = some (.cells #[(vI 1), (vI 2), vN] 26 (0, 0))) ∧ (Own w w0.heap.size 26 3 lv (sh4 a b pa pb).length xs) ∧ (IsTs w (b2 :: b1 :: oblk lv) (sh4 a b pa pb) xs) ∧ (b2 ∉ oblk lv) ∧ (b1 ∉ oblk lv) ∧ True) ?_ ?_
    rotate_left
    ·rintro ac w ⟨lv, xs, hF, hln, ⟨hC, hib1, lob1, hb1, hib2, lob2, hb2, hown, hts, hnob2, hnob1, _⟩⟩
     refine wp_seq ?_
     refine wp_region_lit ?_
     refine wl (d_move rfl) rfl hF (fun ac hF => ?_)
     refine wl (d_buildS (cells := #[(vB dh), vf]) Tryd.underlying31 z31 (fun w => pl31 w _ Tryd.underlying31) rfl (by simp [Instr.fill, Value.cells])) rfl hF (fun ac hF => ?_)
     refine wlR (ok_alloc z31) rfl hF ?_
     rintro _ w ac ⟨b3, rfl, hnb_⟩ hF
     have hch_ : Ch [] _ w := hnb_.ch
     have lo_ := hnb_.lo hC.size
     have ne_b1_b3 := hnb_.gt hib1
     have ne_b2_b3 := hnb_.gt hib2
     have hts_ := hts
     have hnob3_ : b3 ∉ oblk lv := fun h_ => by have h1_ := (Own.lt hown _ h_).2; have h2_ := hnb_.num; omega
     have hC := hC.trans' hch_ (fun z hz => .inr (absurd hz (by simp)))
     have hib1 := hch_.lt hib1
     have hb1 := Ch.blk0 hch_ hb1 (by first | assumption | (simp; done) | (simp <;> omega))
     have hib2 := hch_.lt hib2
     have hb2 := Ch.blk0 hch_ hb2 (by first | assumption | (simp; done) | (simp <;> omega))
     have hown := Own.mv hown hch_ (fun b_ hb_ => by first | (simp; done) | (intro hm_; simp at hm_; subst hm_; contradiction))
     have hib3 : b3 < w.heap.size := hnb_.lt
     have lob3 : w0.heap.size ≤ b3 := lo_
     have hb3 : w.heap[b3]? = some (.cells #[vf, vf] 31 (0, 0)) := hnb_.blk
     have ne_b1_b3 : b1 < b3 := ne_b1_b3
     have ne_b2_b3 : b2 < b3 := ne_b2_b3
     have hts : IsTs w (b3 :: b2 :: b1 :: oblk lv) (sh4 a b pa pb) xs := IsTs.mv hnb_.ch (by simp) (fun x hx => by rcases List.mem_cons.1 hx with rfl | hx; exact .inr (Nat.le_of_eq hnb_.num.symm); exact .inl hx) _ _ hts_
     have hnob3 : b3 ∉ oblk lv := hnob3_
     refine wl0R (ok_storeA (c' := #[(vB dh), vf]) sz31 rfl rfl rfl (fun v hv => by simp at hv; rcases hv with rfl | rfl <;> rfl) hb3 rfl) hF ?_
     rintro w ac hu_ hF
     have hch_ : Ch [b3] _ w := hu_.ch
     have hC := hC.trans' hch_ (fun z hz => .inr ((by simp at hz; subst hz; assumption)))
     have hib1 := hch_.lt hib1
     have hb1 := Ch.blk0 hch_ hb1 (by first | assumption | (simp; done) | (simp <;> omega))
     have hib2 := hch_.lt hib2
     have hb2 := Ch.blk0 hch_ hb2 (by first | assumption | (simp; done) | (simp <;> omega))
     have hown := Own.mv hown hch_ (fun b_ hb_ => by first | (simp; done) | (intro hm_; simp at hm_; subst hm_; contradiction))
     have hts : IsTs w (b3 :: b2 :: b1 :: oblk lv) (sh4 a b pa pb) xs := IsTs.mv hch_ (by intro y hy; first | (simp at hy; done) | (simp at hy; subst hy; simp; done) | (simp [hy]; done)) (fun x hx => .inl hx) _ _ hts
     have hib3 := hch_.lt hib3
     have hb3 : w.heap[b3]? = some (.cells #[(vB dh), vf] 31 (0, 0)) := hu_.blk
     refine wl_nil ?_
     refine then_n ?_
     refine wp_seq ?_
     refine wp_region_lit ?_
     refine wl (d_loadC Tryd.underlying26 rfl sz26 rfl ((At.of_blk hb2)) rfl) rfl hF (fun ac hF => ?_)
     refine wl (d_loadC Tryd.underlying26 rfl sz26 rfl ((At.of_blk hb1)) rfl) rfl hF (fun ac hF => ?_)
     have hX_ : ∀ x, x ∈ (b3 :: b2 :: b1 :: oblk lv) → x < w.heap.size := by
      intro x hx
      simp only [List.mem_cons, List.not_mem_nil, or_false] at hx
      rcases hx with rfl | rfl | rfl | hx
      ·exact hib3
      ·exact hib2
      ·exact hib1
      ·exact (Own.lt hown x hx).2
     refine wlR (ok_call c18 rfl (two_calls (X := (b3 :: b2 :: b1 :: oblk lv)) (a := Tm.mk 1 2 []) (b := Tm.mk 1 1 []) _ hX_ (isT_atom _ _ _) (isT_atom _ _ _))) rfl hF ?_
     rintro _ w ac ⟨g4, rfl, hTg4, hg_⟩ hF
     have hch_ : Ch [] _ w := Gr.ch hg_
     have hC := hC.trans' hch_ (fun z hz => .inr (absurd hz (by simp)))
     have hib1 := hch_.lt hib1
     have hb1 := Ch.blk0 hch_ hb1 (by first | assumption | (simp; done) | (simp <;> omega))
     have hib2 := hch_.lt hib2
     have hb2 := Ch.blk0 hch_ hb2 (by first | assumption | (simp; done) | (simp <;> omega))
     have hown := Own.mv hown hch_ (fun b_ hb_ => by first | (simp; done) | (intro hm_; simp at hm_; subst hm_; contradiction))
     have hts : IsTs w (b3 :: b2 :: b1 :: oblk lv) (sh4 a b pa pb) xs := IsTs.mv hch_ (by intro y hy; first | (simp at hy; done) | (simp at hy; subst hy; simp; done) | (simp [hy]; done)) (fun x hx => .inl hx) _ _ hts
     have hib3 := hch_.lt hib3
     have hb3 := Ch.blk0 hch_ hb3 (by first | assumption | (simp; done) | (simp <;> omega))
     refine wlR (ok_alloc z26) rfl hF ?_
     rintro _ w ac ⟨b5, rfl, hnb_⟩ hF
     have hch_ : Ch [] _ w := hnb_.ch
     have lo_ := hnb_.lo hC.size
     have ne_b1_b5 := hnb_.gt hib1
     have ne_b2_b5 := hnb_.gt hib2
     have ne_b3_b5 := hnb_.gt hib3
     have hTg4_ := hTg4
     have hts_ := hts
     have hnob5_ : b5 ∉ oblk lv := fun h_ => by have h1_ := (Own.lt hown _ h_).2; have h2_ := hnb_.num; omega
     have hC := hC.trans' hch_ (fun z hz => .inr (absurd hz (by simp)))
     have hib1 := hch_.lt hib1
     have hb1 := Ch.blk0 hch_ hb1 (by first | assumption | (simp; done) | (simp <;> omega))
     have hib2 := hch_.lt hib2
     have hb2 := Ch.blk0 hch_ hb2 (by first | assumption | (simp; done) | (simp <;> omega))
     have hown := Own.mv hown hch_ (fun b_ hb_ => by first | (simp; done) | (intro hm_; simp at hm_; subst hm_; contradiction))
     have hib3 := hch_.lt hib3
     have hb3 := Ch.blk0 hch_ hb3 (by first | assumption | (simp; done) | (simp <;> omega))
     have hib5 : b5 < w.heap.size := hnb_.lt
     have lob5 : w0.heap.size ≤ b5 := lo_
     have hb5 : w.heap[b5]? = some (.cells #[(vI 0), (vI 0), vN] 26 (0, 0)) := hnb_.blk
     have ne_b1_b5 : b1 < b5 := ne_b1_b5
     have ne_b2_b5 : b2 < b5 := ne_b2_b5
     have ne_b3_b5 : b3 < b5 := ne_b3_b5
     have hTg4 : IsT w (b5 :: b3 :: b2 :: b1 :: oblk lv) (Tm.mk 3 0 [Tm.mk 1 2 [], Tm.mk 1 1 []]) [(vI 3), (vI 0), (vS g4 0 2 2)] := IsT.mv hnb_.ch (by simp) (fun x hx => by rcases List.mem_cons.1 hx with rfl | hx; exact .inr (Nat.le_of_eq hnb_.num.symm); exact .inl hx) _ _ hTg4_
     have hts : IsTs w (b5 :: b3 :: b2 :: b1 :: oblk lv) (sh4 a b pa pb) xs := IsTs.mv hnb_.ch (by simp) (fun x hx => by rcases List.mem_cons.1 hx with rfl | hx; exact .inr (Nat.le_of_eq hnb_.num.symm); exact .inl hx) _ _ hts_
     have hnob5 : b5 ∉ oblk lv := hnob5_
     refine wl0R (ok_storeA (c' := #[(vI 3), (vI 0), (vS g4 0 2 2)]) sz26 rfl rfl rfl (fun v hv => by simp at hv; rcases hv with rfl | rfl | rfl <;> rfl) hb5 rfl) hF ?_
     rintro w ac hu_ hF
     have hch_ : Ch [b5] _ w := hu_.ch
     have hC := hC.trans' hch_ (fun z hz => .inr ((by simp at hz; subst hz; assumption)))
     have hib1 := hch_.lt hib1
     have hb1 := Ch.blk0 hch_ hb1 (by first | assumption | (simp; done) | (simp <;> omega))
     have hib2 := hch_.lt hib2
     have hb2 := Ch.blk0 hch_ hb2 (by first | assumption | (simp; done) | (simp <;> omega))
     have hown := Own.mv hown hch_ (fun b_ hb_ => by first | (simp; done) | (intro hm_; simp at hm_; subst hm_; contradiction))
     have hts : IsTs w (b5 :: b3 :: b2 :: b1 :: oblk lv) (sh4 a b pa pb) xs := IsTs.mv hch_ (by intro y hy; first | (simp at hy; done) | (simp at hy; subst hy; simp; done) | (simp [hy]; done)) (fun x hx => .inl hx) _ _ hts
     have hib3 := hch_.lt hib3
     have hb3 := Ch.blk0 hch_ hb3 (by first | assumption | (simp; done) | (simp <;> omega))
     have hTg4 : IsT w (b5 :: b3 :: b2 :: b1 :: oblk lv) (Tm.mk 3 0 [Tm.mk 1 2 [], Tm.mk 1 1 []]) [(vI 3), (vI 0), (vS g4 0 2 2)] := IsT.mv hch_ (by intro y hy; first | (simp at hy; done) | (simp at hy; subst hy; simp; done) | (simp [hy]; done)) (fun x hx => .inl hx) _ _ hTg4
     have hib5 := hch_.lt hib5
     have hb5 : w.heap[b5]? = some (.cells #[(vI 3), (vI 0), (vS g4 0 2 2)] 26 (0, 0)) := hu_.blk
     refine wl_nil ?_
     refine then_n ?_
     refine wp_seq ?_
     refine wp_join (fun ac w => Frm ac 104 [(0, (vB a)), (1, (vB b)), (2, (vB pa)), (3, (vB pb)), (4, (vB dh)), (10, vf), (11, (vp b1)), (12, (vp b2)), (13, lv), (14, (vp b3)), (15, (vp b5)), (16, (vB (a || pa))), (17, (vB (b || pb))), (20, (vB a)), (25, (vB b)), (30, (vB pa)), (36, (vB pb))] ∧ (Ch [] w0 w) ∧ (b1 < w.heap.size) ∧ (w0.heap.size ≤ b1) ∧ (w.heap[b1]? = some (.cells #[(vI 1), (vI 1), vN] 26 (0, 0))) ∧ (b2 < w.heap.size) ∧ (w0.heap.size ≤ b2) ∧ (w.heap[b2]? = some (.cells #[(vI 1), (vI 2), vN] 26 (0, 0))) ∧ (Own w w0.heap.size 26 3 lv (sh4 a b pa pb).length xs) ∧ (IsTs w (b5 :: b3 :: b2 :: b1 :: oblk lv) (sh4 a b pa pb) xs) ∧ (b2 ∉ oblk lv) ∧ (b1 ∉ oblk lv) ∧ (b3 < w.heap.size) ∧ (w0.heap.size ≤ b3) ∧ (w.heap[b3]? = some (.cells #[(vB dh), vf] 31 (0, 0))) ∧ (b1 < b3) ∧ (b2 < b3) ∧ (b3 ∉ oblk lv) ∧ (IsT w (b5 :: b3 :: b2 :: b1 :: oblk lv) (Tm.mk 3 0 [Tm.mk 1 2 [], Tm.mk 1 1 []]) [(vI 3), (vI 0), (vS g4 0 2 2)]) ∧ (b5 < w.heap.size) ∧ (w0.heap.size ≤ b5) ∧ (w.heap[b5]? = some (.cells #[(vI 3), (vI 0), (vS g4 0 2 2)] 26 (0, 0))) ∧ (b1 < b5) ∧ (b2 < b5) ∧ (b3 < b5) ∧ (b5 ∉ oblk lv) ∧ True) ?_ ?_
     rotate_left
     ·rintro ac w ⟨hF, ⟨hC, hib1, lob1, hb1, hib2, lob2, hb2, hown, hts, hnob2, hnob1, hib3, lob3, hb3, ne_b1_b3, ne_b2_b3, hnob3, hTg4, hib5, lob5, hb5, ne_b1_b5, ne_b2_b5, ne_b3_b5, hnob5, _⟩⟩
      refine wp_seq ?_
      obtain ⟨A1_0, hA1_0⟩ : ∃ A : (Nat → Value) → World → Prop, A = fun _ w => (Ch [] w0 w) ∧ (b1 < w.heap.size) ∧ (w0.heap.size ≤ b1) ∧ (w.heap[b1]? = some (.cells #[(vI 1), (vI 1), vN] 26 (0, 0))) ∧ (b2 < w.heap.size) ∧ (w0.heap.size ≤ b2) ∧ (w.heap[b2]? = some (.cells #[(vI 1), (vI 2), vN] 26 (0, 0))) ∧ (Own w w0.heap.size 26 3 lv (sh4 a b pa pb).length xs) ∧ (IsTs w (b5 :: b3 :: b2 :: b1 :: oblk lv) (sh4 a b pa pb) xs) ∧ (b2 ∉ oblk lv) ∧ (b1 ∉ oblk lv) ∧ (b3 < w.heap.size) ∧ (w0.heap.size ≤ b3) ∧ (w.heap[b3]? = some (.cells #[(vB dh), vf] 31 (0, 0))) ∧ (b1 < b3) ∧ (b2 < b3) ∧ (b3 ∉ oblk lv) ∧ (IsT w (b5 :: b3 :: b2 :: b1 :: oblk lv) (Tm.mk 3 0 [Tm.mk 1 2 [], Tm.mk 1 1 []]) [(vI 3), (vI 0), (vS g4 0 2 2)]) ∧ (b5 < w.heap.size) ∧ (w0.heap.size ≤ b5) ∧ (w.heap[b5]? = some (.cells #[(vI 3), (vI 0), (vS g4 0 2 2)] 26 (0, 0))) ∧ (b1 < b5) ∧ (b2 < b5) ∧ (b3 < b5) ∧ (b5 ∉ oblk lv) ∧ True := ⟨_, rfl⟩
      obtain ⟨A1_1, hA1_1⟩ : ∃ A : (Nat → Value) → World → Prop, A = fun _ w => (Ch [] w0 w) ∧ (b1 < w.heap.size) ∧ (w0.heap.size ≤ b1) ∧ (w.heap[b1]? = some (.cells #[(vI 1), (vI 1), vN] 26 (0, 0))) ∧ (b2 < w.heap.size) ∧ (w0.heap.size ≤ b2) ∧ (w.heap[b2]? = some (.cells #[(vI 1), (vI 2), vN] 26 (0, 0))) ∧ (Own w w0.heap.size 26 3 lv (sh4 a b pa pb).length xs) ∧ (IsTs w (b5 :: b3 :: b2 :: b1 :: oblk lv) (sh4 a b pa pb) xs) ∧ (b2 ∉ oblk lv) ∧ (b1 ∉ oblk lv) ∧ (b3 < w.heap.size) ∧ (w0.heap.size ≤ b3) ∧ (w.heap[b3]? = some (.cells #[(vB dh), vf] 31 (0, 0))) ∧ (b1 < b3) ∧ (b2 < b3) ∧ (b3 ∉ oblk lv) ∧ (IsT w (b5 :: b3 :: b2 :: b1 :: oblk lv) (Tm.mk 3 0 [Tm.mk 1 2 [], Tm.mk 1 1 []]) [(vI 3), (vI 0), (vS g4 0 2 2)]) ∧ (b5 < w.heap.size) ∧ (w0.heap.size ≤ b5) ∧ (w.heap[b5]? = some (.cells #[(vI 3), (vI 0), (vS g4 0 2 2)] 26 (0, 0))) ∧ (b1 < b5) ∧ (b2 < b5) ∧ (b3 < b5) ∧ (b5 ∉ oblk lv) ∧ True := ⟨_, rfl⟩
      obtain ⟨A1_2, hA1_2⟩ : ∃ A : (Nat → Value) → World → Prop, A = fun H1 w => (Ch [] w0 w) ∧ (b1 < w.heap.size) ∧ (w0.heap.size ≤ b1) ∧ (w.heap[b1]? = some (.cells #[(vI 1), (vI 1), vN] 26 (0, 0))) ∧ (b2 < w.heap.size) ∧ (w0.heap.size ≤ b2) ∧ (w.heap[b2]? = some (.cells #[(vI 1), (vI 2), vN] 26 (0, 0))) ∧ (Own w w0.heap.size 26 3 lv (sh4 a b pa pb).length xs) ∧ (IsTs w (b5 :: b3 :: b2 :: b1 :: oblk lv) (sh4 a b pa pb) xs) ∧ (b2 ∉ oblk lv) ∧ (b1 ∉ oblk lv) ∧ (b3 < w.heap.size) ∧ (w0.heap.size ≤ b3) ∧ (w.heap[b3]? = some (.cells #[(vB dh), vf] 31 (0, 0))) ∧ (b1 < b3) ∧ (b2 < b3) ∧ (b3 ∉ oblk lv) ∧ (IsT w (b5 :: b3 :: b2 :: b1 :: oblk lv) (Tm.mk 3 0 [Tm.mk 1 2 [], Tm.mk 1 1 []]) [(vI 3), (vI 0), (vS g4 0 2 2)]) ∧ (b5 < w.heap.size) ∧ (w0.heap.size ≤ b5) ∧ (w.heap[b5]? = some (.cells #[(vI 3), (vI 0), (vS g4 0 2 2)] 26 (0, 0))) ∧ (b1 < b5) ∧ (b2 < b5) ∧ (b3 < b5) ∧ (b5 ∉ oblk lv) ∧ (IsT w (b5 :: b3 :: b2 :: b1 :: oblk lv) (pubOf (Tm.mk 1 1 [])) [(vI 2), (vI 0), (vS (blk (H1 28)) 0 1 1)]) ∧ (H1 28 = (Value.agg #[(vI 2), (vI 0), (vS (blk (H1 28)) 0 1 1)])) ∧ True := ⟨_, rfl⟩
      obtain ⟨A1_3, hA1_3⟩ : ∃ A : (Nat → Value) → World → Prop, A = fun H1 w => (Ch [] w0 w) ∧ (b1 < w.heap.size) ∧ (w0.heap.size ≤ b1) ∧ (w.heap[b1]? = some (.cells #[(vI 1), (vI 1), vN] 26 (0, 0))) ∧ (b2 < w.heap.size) ∧ (w0.heap.size ≤ b2) ∧ (w.heap[b2]? = some (.cells #[(vI 1), (vI 2), vN] 26 (0, 0))) ∧ (Own w w0.heap.size 26 3 lv (sh4 a b pa pb).length xs) ∧ (IsTs w (b5 :: b3 :: b2 :: b1 :: oblk lv) (sh4 a b pa pb) xs) ∧ (b2 ∉ oblk lv) ∧ (b1 ∉ oblk lv) ∧ (b3 < w.heap.size) ∧ (w0.heap.size ≤ b3) ∧ (w.heap[b3]? = some (.cells #[(vB dh), vf] 31 (0, 0))) ∧ (b1 < b3) ∧ (b2 < b3) ∧ (b3 ∉ oblk lv) ∧ (IsT w (b5 :: b3 :: b2 :: b1 :: oblk lv) (Tm.mk 3 0 [Tm.mk 1 2 [], Tm.mk 1 1 []]) [(vI 3), (vI 0), (vS g4 0 2 2)]) ∧ (b5 < w.heap.size) ∧ (w0.heap.size ≤ b5) ∧ (w.heap[b5]? = some (.cells #[(vI 3), (vI 0), (vS g4 0 2 2)] 26 (0, 0))) ∧ (b1 < b5) ∧ (b2 < b5) ∧ (b3 < b5) ∧ (b5 ∉ oblk lv) ∧ (IsT w (b5 :: b3 :: b2 :: b1 :: oblk lv) (pubOf (Tm.mk 1 1 [])) [(vI 2), (vI 0), (vS (blk (H1 28)) 0 1 1)]) ∧ (H1 28 = (Value.agg #[(vI 2), (vI 0), (vS (blk (H1 28)) 0 1 1)])) ∧ True := ⟨_, rfl⟩
      obtain ⟨A1_4, hA1_4⟩ : ∃ A : (Nat → Value) → World → Prop, A = fun H1 w => (Ch [] w0 w) ∧ (b1 < w.heap.size) ∧ (w0.heap.size ≤ b1) ∧ (w.heap[b1]? = some (.cells #[(vI 1), (vI 1), vN] 26 (0, 0))) ∧ (b2 < w.heap.size) ∧ (w0.heap.size ≤ b2) ∧ (w.heap[b2]? = some (.cells #[(vI 1), (vI 2), vN] 26 (0, 0))) ∧ (Own w w0.heap.size 26 3 lv (sh4 a b pa pb).length xs) ∧ (IsTs w ((blk (H1 35)) :: b5 :: b3 :: b2 :: b1 :: oblk lv) (sh4 a b pa pb) xs) ∧ (b2 ∉ oblk lv) ∧ (b1 ∉ oblk lv) ∧ (b3 < w.heap.size) ∧ (w0.heap.size ≤ b3) ∧ (w.heap[b3]? = some (.cells #[(vB dh), vf] 31 (0, 0))) ∧ (b1 < b3) ∧ (b2 < b3) ∧ (b3 ∉ oblk lv) ∧ (IsT w ((blk (H1 35)) :: b5 :: b3 :: b2 :: b1 :: oblk lv) (Tm.mk 3 0 [Tm.mk 1 2 [], Tm.mk 1 1 []]) [(vI 3), (vI 0), (vS g4 0 2 2)]) ∧ (b5 < w.heap.size) ∧ (w0.heap.size ≤ b5) ∧ (w.heap[b5]? = some (.cells #[(vI 3), (vI 0), (vS g4 0 2 2)] 26 (0, 0))) ∧ (b1 < b5) ∧ (b2 < b5) ∧ (b3 < b5) ∧ (b5 ∉ oblk lv) ∧ (IsT w ((blk (H1 35)) :: b5 :: b3 :: b2 :: b1 :: oblk lv) (pubOf (Tm.mk 1 1 [])) [(vI 2), (vI 0), (vS (blk (H1 28)) 0 1 1)]) ∧ (H1 28 = (Value.agg #[(vI 2), (vI 0), (vS (blk (H1 28)) 0 1 1)])) ∧ ((blk (H1 35)) < w.heap.size) ∧ (w0.heap.size ≤ (blk (H1 35))) ∧ (w.heap[(blk (H1 35))]? = some (.cells #[] 26 (0, 0))) ∧ (b1 < (blk (H1 35))) ∧ (b2 < (blk (H1 35))) ∧ (b3 < (blk (H1 35))) ∧ (b5 < (blk (H1 35))) ∧ ((blk (H1 35)) ∉ oblk lv) ∧ (H1 35 = (vS (blk (H1 35)) 0 0 0)) ∧ True := ⟨_, rfl⟩
      obtain ⟨A1_5, hA1_5⟩ : ∃ A : (Nat → Value) → World → Prop, A = fun H1 w => (Ch [] w0 w) ∧ (b1 < w.heap.size) ∧ (w0.heap.size ≤ b1) ∧ (w.heap[b1]? = some (.cells #[(vI 1), (vI 1), vN] 26 (0, 0))) ∧ (b2 < w.heap.size) ∧ (w0.heap.size ≤ b2) ∧ (w.heap[b2]? = some (.cells #[(vI 1), (vI 2), vN] 26 (0, 0))) ∧ (Own w w0.heap.size 26 3 (H1 37) (sh4 a b pa pb).length xs) ∧ (IsTs w (b5 :: b3 :: b2 :: b1 :: oblk (H1 37)) (sh4 a b pa pb) xs) ∧ (b2 ∉ oblk (H1 37)) ∧ (b1 ∉ oblk (H1 37)) ∧ (b3 < w.heap.size) ∧ (w0.heap.size ≤ b3) ∧ (w.heap[b3]? = some (.cells #[(vB dh), vf] 31 (0, 0))) ∧ (b1 < b3) ∧ (b2 < b3) ∧ (b3 ∉ oblk (H1 37)) ∧ (IsT w (b5 :: b3 :: b2 :: b1 :: oblk (H1 37)) (Tm.mk 3 0 [Tm.mk 1 2 [], Tm.mk 1 1 []]) [(vI 3), (vI 0), (vS g4 0 2 2)]) ∧ (b5 < w.heap.size) ∧ (w0.heap.size ≤ b5) ∧ (w.heap[b5]? = some (.cells #[(vI 3), (vI 0), (vS g4 0 2 2)] 26 (0, 0))) ∧ (b1 < b5) ∧ (b2 < b5) ∧ (b3 < b5) ∧ (b5 ∉ oblk (H1 37)) ∧ (IsT w (b5 :: b3 :: b2 :: b1 :: oblk (H1 37)) (pubOf (Tm.mk 1 1 [])) [(vI 2), (vI 0), (vS (blk (H1 28)) 0 1 1)]) ∧ (H1 28 = (Value.agg #[(vI 2), (vI 0), (vS (blk (H1 28)) 0 1 1)])) ∧ (w0.heap.size ≤ (blk (H1 35))) ∧ (b1 < (blk (H1 35))) ∧ (b2 < (blk (H1 35))) ∧ (b3 < (blk (H1 35))) ∧ (b5 < (blk (H1 35))) ∧ (H1 35 = (vS (blk (H1 35)) 0 0 0)) ∧ True := ⟨_, rfl⟩
      obtain ⟨A1_6, hA1_6⟩ : ∃ A : (Nat → Value) → World → Prop, A = fun H1 w => (Ch [] w0 w) ∧ (b1 < w.heap.size) ∧ (w0.heap.size ≤ b1) ∧ (w.heap[b1]? = some (.cells #[(vI 1), (vI 1), vN] 26 (0, 0))) ∧ (b2 < w.heap.size) ∧ (w0.heap.size ≤ b2) ∧ (w.heap[b2]? = some (.cells #[(vI 1), (vI 2), vN] 26 (0, 0))) ∧ (Own w w0.heap.size 26 3 (H1 40) ((sh4 a b pa pb).length + 1) (xs ++ [(vI 3), (vI 0), (vS g4 0 2 2)])) ∧ (IsTs w (b5 :: b3 :: b2 :: b1 :: oblk (H1 40)) ((sh4 a b pa pb) ++ [Tm.mk 3 0 [Tm.mk 1 2 [], Tm.mk 1 1 []]]) (xs ++ [(vI 3), (vI 0), (vS g4 0 2 2)])) ∧ (b2 ∉ oblk (H1 40)) ∧ (b1 ∉ oblk (H1 40)) ∧ (b3 < w.heap.size) ∧ (w0.heap.size ≤ b3) ∧ (w.heap[b3]? = some (.cells #[(vB dh), vf] 31 (0, 0))) ∧ (b1 < b3) ∧ (b2 < b3) ∧ (b3 ∉ oblk (H1 40)) ∧ (IsT w (b5 :: b3 :: b2 :: b1 :: oblk (H1 40)) (Tm.mk 3 0 [Tm.mk 1 2 [], Tm.mk 1 1 []]) [(vI 3), (vI 0), (vS g4 0 2 2)]) ∧ (b5 < w.heap.size) ∧ (w0.heap.size ≤ b5) ∧ (w.heap[b5]? = some (.cells #[(vI 3), (vI 0), (vS g4 0 2 2)] 26 (0, 0))) ∧ (b1 < b5) ∧ (b2 < b5) ∧ (b3 < b5) ∧ (b5 ∉ oblk (H1 40)) ∧ (IsT w (b5 :: b3 :: b2 :: b1 :: oblk (H1 40)) (pubOf (Tm.mk 1 1 [])) [(vI 2), (vI 0), (vS (blk (H1 28)) 0 1 1)]) ∧ (H1 28 = (Value.agg #[(vI 2), (vI 0), (vS (blk (H1 28)) 0 1 1)])) ∧ (w0.heap.size ≤ (blk (H1 35))) ∧ (b1 < (blk (H1 35))) ∧ (b2 < (blk (H1 35))) ∧ (b3 < (blk (H1 35))) ∧ (b5 < (blk (H1 35))) ∧ (H1 35 = (vS (blk (H1 35)) 0 0 0)) ∧ True := ⟨_, rfl⟩
      obtain ⟨A1_7, hA1_7⟩ : ∃ A : (Nat → Value) → World → Prop, A = fun H1 w => (Ch [] w0 w) ∧ (b1 < w.heap.size) ∧ (w0.heap.size ≤ b1) ∧ (w.heap[b1]? = some (.cells #[(vI 1), (vI 1), vN] 26 (0, 0))) ∧ (b2 < w.heap.size) ∧ (w0.heap.size ≤ b2) ∧ (w.heap[b2]? = some (.cells #[(vI 1), (vI 2), vN] 26 (0, 0))) ∧ (Own w w0.heap.size 26 3 (H1 40) ((sh4 a b pa pb).length + 1) (xs ++ [(vI 3), (vI 0), (vS g4 0 2 2)])) ∧ (IsTs w (b5 :: b3 :: b2 :: b1 :: oblk (H1 40)) ((sh4 a b pa pb) ++ [Tm.mk 3 0 [Tm.mk 1 2 [], Tm.mk 1 1 []]]) (xs ++ [(vI 3), (vI 0), (vS g4 0 2 2)])) ∧ (b2 ∉ oblk (H1 40)) ∧ (b1 ∉ oblk (H1 40)) ∧ (b3 < w.heap.size) ∧ (w0.heap.size ≤ b3) ∧ (w.heap[b3]? = some (.cells #[(vB dh), vf] 31 (0, 0))) ∧ (b1 < b3) ∧ (b2 < b3) ∧ (b3 ∉ oblk (H1 40)) ∧ (IsT w (b5 :: b3 :: b2 :: b1 :: oblk (H1 40)) (Tm.mk 3 0 [Tm.mk 1 2 [], Tm.mk 1 1 []]) [(vI 3), (vI 0), (vS g4 0 2 2)]) ∧ (b5 < w.heap.size) ∧ (w0.heap.size ≤ b5) ∧ (w.heap[b5]? = some (.cells #[(vI 3), (vI 0), (vS g4 0 2 2)] 26 (0, 0))) ∧ (b1 < b5) ∧ (b2 < b5) ∧ (b3 < b5) ∧ (b5 ∉ oblk (H1 40)) ∧ (IsT w (b5 :: b3 :: b2 :: b1 :: oblk (H1 40)) (pubOf (Tm.mk 1 1 [])) [(vI 2), (vI 0), (vS (blk (H1 28)) 0 1 1)]) ∧ (H1 28 = (Value.agg #[(vI 2), (vI 0), (vS (blk (H1 28)) 0 1 1)])) ∧ (w0.heap.size ≤ (blk (H1 35))) ∧ (b1 < (blk (H1 35))) ∧ (b2 < (blk (H1 35))) ∧ (b3 < (blk (H1 35))) ∧ (b5 < (blk (H1 35))) ∧ (H1 35 = (vS (blk (H1 35)) 0 0 0)) ∧ True := ⟨_, rfl⟩
      obtain ⟨A1_8, hA1_8⟩ : ∃ A : (Nat → Value) → World → Prop, A = fun H1 w => (Ch [] w0 w) ∧ (b1 < w.heap.size) ∧ (w0.heap.size ≤ b1) ∧ (w.heap[b1]? = some (.cells #[(vI 1), (vI 1), vN] 26 (0, 0))) ∧ (b2 < w.heap.size) ∧ (w0.heap.size ≤ b2) ∧ (w.heap[b2]? = some (.cells #[(vI 1), (vI 2), vN] 26 (0, 0))) ∧ (Own w w0.heap.size 26 3 (H1 40) ((sh4 a b pa pb).length + 1) (xs ++ [(vI 3), (vI 0), (vS g4 0 2 2)])) ∧ (IsTs w (b5 :: b3 :: b2 :: b1 :: oblk (H1 40)) ((sh4 a b pa pb) ++ [Tm.mk 3 0 [Tm.mk 1 2 [], Tm.mk 1 1 []]]) (xs ++ [(vI 3), (vI 0), (vS g4 0 2 2)])) ∧ (b2 ∉ oblk (H1 40)) ∧ (b1 ∉ oblk (H1 40)) ∧ (b3 < w.heap.size) ∧ (w0.heap.size ≤ b3) ∧ (w.heap[b3]? = some (.cells #[(vB dh), vf] 31 (0, 0))) ∧ (b1 < b3) ∧ (b2 < b3) ∧ (b3 ∉ oblk (H1 40)) ∧ (IsT w (b5 :: b3 :: b2 :: b1 :: oblk (H1 40)) (Tm.mk 3 0 [Tm.mk 1 2 [], Tm.mk 1 1 []]) [(vI 3), (vI 0), (vS g4 0 2 2)]) ∧ (b5 < w.heap.size) ∧ (w0.heap.size ≤ b5) ∧ (w.heap[b5]? = some (.cells #[(vI 3), (vI 0), (vS g4 0 2 2)] 26 (0, 0))) ∧ (b1 < b5) ∧ (b2 < b5) ∧ (b3 < b5) ∧ (b5 ∉ oblk (H1 40)) ∧ (IsT w (b5 :: b3 :: b2 :: b1 :: oblk (H1 40)) (pubOf (Tm.mk 1 1 [])) [(vI 2), (vI 0), (vS (blk (H1 28)) 0 1 1)]) ∧ (H1 28 = (Value.agg #[(vI 2), (vI 0), (vS (blk (H1 28)) 0 1 1)])) ∧ (w0.heap.size ≤ (blk (H1 35))) ∧ (b1 < (blk (H1 35))) ∧ (b2 < (blk (H1 35))) ∧ (b3 < (blk (H1 35))) ∧ (b5 < (blk (H1 35))) ∧ (H1 35 = (vS (blk (H1 35)) 0 0 0)) ∧ True := ⟨_, rfl⟩
      refine region_hist2 mo (fun p_ H_ w_ => (([A1_0, A1_1, A1_2, A1_3, A1_4, A1_5, A1_6, A1_7, A1_8] : List ((Nat → Value) → World → Prop)).getD p_ (fun _ _ => True)) H_ w_) [3, 28, 29, 35, 37, 40, 42, 47] [39] (fun j_ v_ w_ => bif Nat.beq j_ 39 then (v_ = (vS (blk v_) 0 1 1) ∧ At w_ (blk v_) 0 [(vI 3), (vI 0), (vS g4 0 2 2)]) else False) Gr 5 ?_ (rows := [hr_ [] [(14, (vp b3))] [0] (Value.agg #[(vB dh), vf]), hr_ [] [(13, lv)] [0] lv, hr_ [] [(15, (vp b5))] [0] (Value.agg #[(vI 3), (vI 0), (vS g4 0 2 2)]), hr_ [(0, 55), (1, 56), (2, 57)] [] [0] (vB (a && (b || pb) || b && (a || pa) || dh && (a || pa) && (b || pb))), hr_ [] [(0, (vB a))] [0, 1] (vB a), hr_ [(4, 59)] [] [1] (vB a), hr_ [(5, 60)] [(17, (vB (b || pb)))] [1] (shv61 a b pa pb dh), hr_ [(5, 60), (6, 61)] [] [1] (shv62 a b pa pb dh), hr_ [(7, 62)] [] [1] (shv62 a b pa pb dh), hr_ [(8, 63)] [(1, (vB b))] [1] (shv64 a b pa pb dh), hr_ [(9, 64), (8, 63)] [] [1] (shv65 a b pa pb dh), hr_ [(10, 65)] [(16, (vB (a || pa)))] [1] (shv66 a b pa pb dh), hr_ [(10, 65), (11, 66), (8, 63)] [] [1] (shv67 a b pa pb dh), hr_ [(8, 63), (12, 67)] [] [1] (shv68 a b pa pb dh), hr_ [(13, 68)] [] [1] (shv68 a b pa pb dh), hr_ [(14, 69)] [(4, (vB dh))] [1] (shv70 a b pa pb dh), hr_ [(15, 70), (14, 69)] [] [1] (shv71 a b pa pb dh), hr_ [(16, 71)] [(16, (vB (a || pa)))] [1] (shv72 a b pa pb dh), hr_ [(16, 71), (17, 72), (14, 69)] [] [1] (shv73 a b pa pb dh), hr_ [(18, 73), (14, 69)] [] [1] (shv74 a b pa pb dh), hr_ [(19, 74)] [(17, (vB (b || pb)))] [1] (shv75 a b pa pb dh), hr_ [(19, 74), (20, 75), (14, 69)] [] [1] (shv76 a b pa pb dh), hr_ [(14, 69), (21, 76)] [] [1] (shv77 a b pa pb dh), hr_ [(3, 58), (22, 77)] [] [1] vt, hr_ [(23, 78)] [] [1] vt, hr_ [(24, 79)] [(14, (vp b3))] [1, 2] (Value.agg #[(vB dh), vf]), hr_ [(24, 79)] [(13, lv)] [1, 2] lv, hr_ [(24, 79)] [(11, (vp b1))] [1] (Value.agg #[(vI 1), (vI 1), vN]), ⟨[(27, 82), (24, 79)], [], [1], [28], fun H1 => H1 28, fun H1 K_ h_ => by simp only [h_ 28 (by simp)]⟩, hr_ [(25, 80), (26, 81), (28, 83), (24, 79)] [] [2] (vB (a || pa)), hr_ [(24, 79)] [(16, (vB (a || pa)))] [1, 2, 3] (vB (a || pa)), hr_ [(29, 84), (30, 85), (24, 79)] [] [3] vt, hr_ [(24, 79), (31, 86)] [] [3] vt, hr_ [(32, 87)] [] [3] vt, hr_ [(33, 88)] [(14, (vp b3))] [3, 4, 5, 6] (Value.agg #[(vB dh), vf]), ⟨[(33, 88)], [], [3], [35], fun H1 => H1 35, fun H1 K_ h_ => by simp only [h_ 35 (by simp)]⟩, hr_ [(33, 88)] [(13, lv)] [3, 4] lv, ⟨[(35, 90), (36, 91), (33, 88)], [], [4], [37], fun H1 => H1 37, fun H1 K_ h_ => by simp only [h_ 37 (by simp)]⟩, hr_ [(33, 88)] [(15, (vp b5))] [3, 4, 5] (Value.agg #[(vI 3), (vI 0), (vS g4 0 2 2)]), ⟨[(38, 93), (33, 88)], [], [3, 4, 5], [39], fun H1 => H1 39, fun H1 K_ h_ => by simp only [h_ 39 (by simp)]⟩, ⟨[(37, 92), (39, 94), (33, 88)], [], [5], [39, 40], fun H1 => H1 40, fun H1 K_ h_ => by simp only [h_ 39 (by simp), h_ 40 (by simp)]⟩, hr_ [(33, 88)] [(11, (vp b1))] [3, 4, 5, 6] (Value.agg #[(vI 1), (vI 1), vN]), hr_ [(34, 89), (40, 95), (41, 96), (33, 88)] [] [6] (vB a), hr_ [(33, 88)] [(0, (vB a))] [3, 4, 5, 6, 7] (vB a), hr_ [(42, 97), (43, 98), (33, 88)] [] [7] vt, hr_ [(33, 88), (44, 99)] [] [7] vt, hr_ [(45, 100)] [] [7] vt, hr_ [(46, 101)] [] [7] vt, hr_ [(46, 101), (47, 102)] [] [8] vt, hr_ [(48, 103)] [] [8] vt]) (by kernel_rfl) hF (fun H_ => ?_) ?_ ?_
      ·intro j_ v_ w_ w2_ h_ hg_
       by_cases e39_ : j_ = 39
       ·subst e39_; obtain ⟨h1_, h2_⟩ := h_; exact ⟨h1_, h2_.mv (Gr.ch hg_) (by simp)⟩
       simp only [beqf e39_, cond_false] at h_ ⊢
      ·have hch_ := Ch.drew w
       have hfin_ : A1_0 H_ { w with drawn := w.drawn + 1 } := by rw [hA1_0]; exact ⟨hC.trans' hch_ (fun z hz => .inr (absurd hz (by simp))), hch_.lt hib1, lob1, Ch.blk0 hch_ hb1 (by first | assumption | (simp; done) | (simp <;> omega)), hch_.lt hib2, lob2, Ch.blk0 hch_ hb2 (by first | assumption | (simp; done) | (simp <;> omega)), Own.mv hown hch_ (fun b_ hb_ => by first | (simp; done) | (intro hm_; simp at hm_; subst hm_; contradiction)), IsTs.mv hch_ (by intro y hy; first | (simp at hy; done) | (simp at hy; subst hy; simp; done) | (simp [hy]; done)) (fun x hx => .inl hx) _ _ hts, hnob2, hnob1, hch_.lt hib3, lob3, Ch.blk0 hch_ hb3 (by first | assumption | (simp; done) | (simp <;> omega)), ne_b1_b3, ne_b2_b3, hnob3, IsT.mv hch_ (by intro y hy; first | (simp at hy; done) | (simp at hy; subst hy; simp; done) | (simp [hy]; done)) (fun x hx => .inl hx) _ _ hTg4, hch_.lt hib5, lob5, Ch.blk0 hch_ hb5 (by first | assumption | (simp; done) | (simp <;> omega)), ne_b1_b5, ne_b2_b5, ne_b3_b5, hnob5, trivial⟩
       exact hfin_
      ·refine ⟨?_, ?_, ?_, ?_, ?_, ?_, ?_, ?_, ?_, ?_, ?_, ?_, ?_, ?_, ?_, ?_, ?_, ?_, ?_, ?_, ?_, ?_, ?_, ?_, ?_, ?_, ?_, ?_, ?_, ?_, ?_, ?_, ?_, ?_, ?_, ?_, ?_, ?_, ?_, ?_, ?_, ?_, ?_, ?_, ?_, ?_, ?_, ?_, ?_, ?_, trivial⟩
       ·exact GOb.fact Gr.refl hA1_0 ⟨rfl, trivial⟩ rfl rfl rfl rfl rfl (fun H1 w ⟨_, _, _, _, _, _, _, _, _, _, _, _, _, hb3, _⟩ => d_loadC Tryd.underlying31 rfl sz31 rfl ((At.of_blk hb3)) rfl)
       ·exact GOb.pure Gr.refl ⟨rfl, trivial⟩ rfl rfl rfl (fun _ _ => d_move rfl)
       ·exact GOb.fact Gr.refl hA1_0 ⟨rfl, trivial⟩ rfl rfl rfl rfl rfl (fun H1 w ⟨_, _, _, _, _, _, _, _, _, _, _, _, _, _, _, _, _, _, _, _, hb5, _⟩ => d_loadC Tryd.underlying26 rfl sz26 rfl ((At.of_blk hb5)) rfl)
       ·refine ⟨trivial, fun ph_ hp_ H1 w hW hfl_ => ?_⟩
        obtain rfl := memN_one hp_
        replace hW : A1_0 H1 w := hW
        rw [hA1_0] at hW
        obtain ⟨hC, hib1, lob1, hb1, hib2, lob2, hb2, hown, hts, hnob2, hnob1, hib3, lob3, hb3, ne_b1_b3, ne_b2_b3, hnob3, hTg4, hib5, lob5, hb5, ne_b1_b5, ne_b2_b5, ne_b3_b5, hnob5, _⟩ := hW
        refine Ok1.mono (ok_call c19 rfl (Knows_own (W := ⟨dh, false⟩) (known := sh4 a b pa pb) (t := Tm.mk 3 0 [Tm.mk 1 2 [], Tm.mk 1 1 []]) (shares_1 a b pa pb dh) _ (hT0 _ _ (hC.below hw0.size (by simp)) hw0) (by first | omega | (simp; omega)) (by first | exact hown | (rw [List.length_append]; exact hown)) hts (IsT.sub (X := (b5 :: b3 :: b2 :: b1 :: oblk lv)) (X' := []) hTg4 (by simp)))) ?_
        rintro _ w' ⟨rfl, hg_⟩
        have hch_ : Ch [] _ w' := Gr.ch hg_
        have hC := hC.trans' hch_ (fun z hz => .inr (absurd hz (by simp)))
        have hib1 := hch_.lt hib1
        have hb1 := Ch.blk0 hch_ hb1 (by first | assumption | (simp; done) | (simp <;> omega))
        have hib2 := hch_.lt hib2
        have hb2 := Ch.blk0 hch_ hb2 (by first | assumption | (simp; done) | (simp <;> omega))
        have hown := Own.mv hown hch_ (fun b_ hb_ => by first | (simp; done) | (intro hm_; simp at hm_; subst hm_; contradiction))
        have hts : IsTs w' (b5 :: b3 :: b2 :: b1 :: oblk lv) (sh4 a b pa pb) xs := IsTs.mv hch_ (by intro y hy; first | (simp at hy; done) | (simp at hy; subst hy; simp; done) | (simp [hy]; done)) (fun x hx => .inl hx) _ _ hts
        have hib3 := hch_.lt hib3
        have hb3 := Ch.blk0 hch_ hb3 (by first | assumption | (simp; done) | (simp <;> omega))
        have hTg4 : IsT w' (b5 :: b3 :: b2 :: b1 :: oblk lv) (Tm.mk 3 0 [Tm.mk 1 2 [], Tm.mk 1 1 []]) [(vI 3), (vI 0), (vS g4 0 2 2)] := IsT.mv hch_ (by intro y hy; first | (simp at hy; done) | (simp at hy; subst hy; simp; done) | (simp [hy]; done)) (fun x hx => .inl hx) _ _ hTg4
        have hib5 := hch_.lt hib5
        have hb5 := Ch.blk0 hch_ hb5 (by first | assumption | (simp; done) | (simp <;> omega))
        have hfin_ : A1_1 (updV H1 3 (vB (a && (b || pb) || b && (a || pa) || dh && (a || pa) && (b || pb)))) w' := by rw [hA1_1]; exact ⟨hC, hib1, lob1, hb1, hib2, lob2, hb2, hown, hts, hnob2, hnob1, hib3, lob3, hb3, ne_b1_b3, ne_b2_b3, hnob3, hTg4, hib5, lob5, hb5, ne_b1_b5, ne_b2_b5, ne_b3_b5, hnob5, trivial⟩
        exact R2.eff rfl hfin_ rfl (fun _ => Ch.gr hch_) rfl
       ·exact GOb.pure Gr.refl ⟨rfl, trivial⟩ rfl rfl rfl (fun _ _ => d_move rfl)
       ·exact GOb.pure Gr.refl trivial rfl rfl rfl (fun _ _ => d_move rfl)
       ·refine ⟨⟨rfl, trivial⟩, fun ph_ hp_ H1 w hW hfl_ => ?_⟩
        obtain rfl := memN_one hp_
        cases a <;> cases b <;> cases pb <;> first | exact ⟨some false, _, rfl, rfl, rfl, rfl, rfl⟩ | exact ⟨some true, _, rfl, rfl, Det.og Gr.refl rfl rfl hW (d_move rfl)⟩
       ·refine ⟨trivial, fun ph_ hp_ H1 w hW hfl_ => ?_⟩
        obtain rfl := memN_one hp_
        cases a <;> cases b <;> cases pa <;> cases pb <;> cases dh <;> exact Det.og Gr.refl rfl rfl hW (d_pick rfl rfl)
       ·exact GOb.pure Gr.refl trivial rfl rfl rfl (fun _ _ => d_move rfl)
       ·refine ⟨⟨rfl, trivial⟩, fun ph_ hp_ H1 w hW hfl_ => ?_⟩
        obtain rfl := memN_one hp_
        cases a <;> cases b <;> cases pa <;> cases pb <;> cases dh <;> first | exact ⟨some false, _, rfl, rfl, Det.og Gr.refl rfl rfl hW (d_move rfl)⟩ | exact ⟨some true, _, rfl, rfl, rfl, rfl, rfl⟩
       ·refine ⟨trivial, fun ph_ hp_ H1 w hW hfl_ => ?_⟩
        obtain rfl := memN_one hp_
        cases a <;> cases b <;> cases pa <;> cases pb <;> cases dh <;> first | exact ⟨some false, _, rfl, rfl, Det.og Gr.refl rfl rfl hW (d_move rfl)⟩ | exact ⟨some true, _, rfl, rfl, rfl, rfl, rfl⟩
       ·refine ⟨⟨rfl, trivial⟩, fun ph_ hp_ H1 w hW hfl_ => ?_⟩
        obtain rfl := memN_one hp_
        cases a <;> cases b <;> cases pa <;> cases pb <;> cases dh <;> first | exact ⟨some false, _, rfl, rfl, rfl, rfl, rfl⟩ | exact ⟨some true, _, rfl, rfl, Det.og Gr.refl rfl rfl hW (d_move rfl)⟩ | exact ⟨none, _, rfl, rfl, rfl, rfl, rfl⟩
       ·refine ⟨trivial, fun ph_ hp_ H1 w hW hfl_ => ?_⟩
        obtain rfl := memN_one hp_
        cases a <;> cases b <;> cases pa <;> cases pb <;> cases dh <;> first | exact ⟨some false, _, rfl, rfl, Det.og Gr.refl rfl rfl hW (d_pick rfl rfl)⟩ | exact ⟨some true, _, rfl, rfl, rfl, rfl, rfl⟩
       ·refine ⟨trivial, fun ph_ hp_ H1 w hW hfl_ => ?_⟩
        obtain rfl := memN_one hp_
        cases a <;> cases b <;> cases pa <;> cases pb <;> cases dh <;> exact Det.og Gr.refl rfl rfl hW (d_pick rfl rfl)
       ·exact GOb.pure Gr.refl trivial rfl rfl rfl (fun _ _ => d_move rfl)
       ·refine ⟨⟨rfl, trivial⟩, fun ph_ hp_ H1 w hW hfl_ => ?_⟩
        obtain rfl := memN_one hp_
        cases a <;> cases b <;> cases pa <;> cases pb <;> cases dh <;> first | exact ⟨some false, _, rfl, rfl, Det.og Gr.refl rfl rfl hW (d_move rfl)⟩ | exact ⟨some true, _, rfl, rfl, rfl, rfl, rfl⟩
       ·refine ⟨trivial, fun ph_ hp_ H1 w hW hfl_ => ?_⟩
        obtain rfl := memN_one hp_
        cases a <;> cases b <;> cases pa <;> cases pb <;> cases dh <;> first | exact ⟨some false, _, rfl, rfl, Det.og Gr.refl rfl rfl hW (d_move rfl)⟩ | exact ⟨some true, _, rfl, rfl, rfl, rfl, rfl⟩
       ·refine ⟨⟨rfl, trivial⟩, fun ph_ hp_ H1 w hW hfl_ => ?_⟩
        obtain rfl := memN_one hp_
        cases a <;> cases b <;> cases pa <;> cases pb <;> cases dh <;> first | exact ⟨some false, _, rfl, rfl, rfl, rfl, rfl⟩ | exact ⟨some true, _, rfl, rfl, Det.og Gr.refl rfl rfl hW (d_move rfl)⟩ | exact ⟨none, _, rfl, rfl, rfl, rfl, rfl⟩
       ·refine ⟨trivial, fun ph_ hp_ H1 w hW hfl_ => ?_⟩
        obtain rfl := memN_one hp_
        cases a <;> cases b <;> cases pa <;> cases pb <;> cases dh <;> first | exact ⟨some false, _, rfl, rfl, Det.og Gr.refl rfl rfl hW (d_pick rfl rfl)⟩ | exact ⟨some true, _, rfl, rfl, rfl, rfl, rfl⟩
       ·refine ⟨trivial, fun ph_ hp_ H1 w hW hfl_ => ?_⟩
        obtain rfl := memN_one hp_
        cases a <;> cases b <;> cases pa <;> cases pb <;> cases dh <;> first | exact ⟨some false, _, rfl, rfl, Det.og Gr.refl rfl rfl hW (d_move rfl)⟩ | exact ⟨some true, _, rfl, rfl, rfl, rfl, rfl⟩
       ·refine ⟨⟨rfl, trivial⟩, fun ph_ hp_ H1 w hW hfl_ => ?_⟩
        obtain rfl := memN_one hp_
        cases a <;> cases b <;> cases pa <;> cases pb <;> cases dh <;> first | exact ⟨some false, _, rfl, rfl, rfl, rfl, rfl⟩ | exact ⟨some true, _, rfl, rfl, Det.og Gr.refl rfl rfl hW (d_move rfl)⟩ | exact ⟨none, _, rfl, rfl, rfl, rfl, rfl⟩
       ·refine ⟨trivial, fun ph_ hp_ H1 w hW hfl_ => ?_⟩
        obtain rfl := memN_one hp_
        cases a <;> cases b <;> cases pa <;> cases pb <;> cases dh <;> first | exact ⟨some false, _, rfl, rfl, Det.og Gr.refl rfl rfl hW (d_pick rfl rfl)⟩ | exact ⟨some true, _, rfl, rfl, rfl, rfl, rfl⟩
       ·refine ⟨trivial, fun ph_ hp_ H1 w hW hfl_ => ?_⟩
        obtain rfl := memN_one hp_
        cases a <;> cases b <;> cases pa <;> cases pb <;> cases dh <;> exact Det.og Gr.refl rfl rfl hW (d_pick rfl rfl)
       ·refine ⟨trivial, fun ph_ hp_ H1 w hW hfl_ => ?_⟩
        obtain rfl := memN_one hp_
        cases a <;> cases b <;> cases pa <;> cases pb <;> cases dh <;> exact Det.og Gr.refl rfl rfl hW (d_bool (c := true) (d_eqlB Tryd.underlying4 rfl rfl) rfl)
       ·exact GOb.pure Gr.refl trivial rfl rfl rfl (fun _ _ => d_move rfl)
       ·refine ⟨⟨rfl, trivial⟩, fun ph_ hp_ H1 w hW hfl_ => ?_⟩
        rcases memN_or hp_ with rfl | hp_
        ·have hW0 := hW
         replace hW : A1_1 H1 w := hW
         rw [hA1_1] at hW
         obtain ⟨hC, hib1, lob1, hb1, hib2, lob2, hb2, hown, hts, hnob2, hnob1, hib3, lob3, hb3, ne_b1_b3, ne_b2_b3, hnob3, hTg4, hib5, lob5, hb5, ne_b1_b5, ne_b2_b5, ne_b3_b5, hnob5, _⟩ := hW
         exact ⟨(some true), _, rfl, rfl, Det.og Gr.refl rfl rfl hW0 (d_loadC Tryd.underlying31 rfl sz31 rfl ((At.of_blk hb3)) rfl)⟩
        obtain rfl := memN_one hp_
        ·have hW0 := hW
         replace hW : A1_2 H1 w := hW
         rw [hA1_2] at hW
         obtain ⟨hC, hib1, lob1, hb1, hib2, lob2, hb2, hown, hts, hnob2, hnob1, hib3, lob3, hb3, ne_b1_b3, ne_b2_b3, hnob3, hTg4, hib5, lob5, hb5, ne_b1_b5, ne_b2_b5, ne_b3_b5, hnob5, hTg6, hv1_28, _⟩ := hW
         exact ⟨(some true), _, rfl, rfl, Det.og Gr.refl rfl rfl hW0 (d_loadC Tryd.underlying31 rfl sz31 rfl ((At.of_blk hb3)) rfl)⟩
       ·exact GOb.pureG Gr.refl ⟨rfl, trivial⟩ rfl rfl (fun _ => rfl) rfl rfl (fun _ _ => d_move rfl)
       ·exact GOb.factG Gr.refl hA1_1 ⟨rfl, trivial⟩ rfl rfl rfl rfl (fun _ => rfl) rfl rfl (fun H1 w ⟨_, _, _, hb1, _⟩ => d_loadC Tryd.underlying26 rfl sz26 rfl ((At.of_blk hb1)) rfl)
       ·refine ⟨trivial, fun ph_ hp_ H1 w hW hfl_ => ?_⟩
        obtain rfl := memN_one hp_
        replace hW : A1_1 H1 w := hW
        rw [hA1_1] at hW
        obtain ⟨hC, hib1, lob1, hb1, hib2, lob2, hb2, hown, hts, hnob2, hnob1, hib3, lob3, hb3, ne_b1_b3, ne_b2_b3, hnob3, hTg4, hib5, lob5, hb5, ne_b1_b5, ne_b2_b5, ne_b3_b5, hnob5, _⟩ := hW
        have hX_ : ∀ x, x ∈ (b5 :: b3 :: b2 :: b1 :: oblk lv) → x < w.heap.size := by
         intro x hx
         simp only [List.mem_cons, List.not_mem_nil, or_false] at hx
         rcases hx with rfl | rfl | rfl | rfl | hx
         ·exact hib5
         ·exact hib3
         ·exact hib2
         ·exact hib1
         ·exact (Own.lt hown x hx).2
        refine ⟨(some true), _, rfl, rfl, Ok1.mono (ok_call c20 rfl (pubL_calls (X := (b5 :: b3 :: b2 :: b1 :: oblk lv)) (a := Tm.mk 1 1 []) _ hX_ (isT_atom _ _ _))) ?_⟩
        rintro _ w' ⟨g6, rfl, hTg6, hg_⟩
        have hch_ : Ch [] _ w' := Gr.ch hg_
        have hC := hC.trans' hch_ (fun z hz => .inr (absurd hz (by simp)))
        have hib1 := hch_.lt hib1
        have hb1 := Ch.blk0 hch_ hb1 (by first | assumption | (simp; done) | (simp <;> omega))
        have hib2 := hch_.lt hib2
        have hb2 := Ch.blk0 hch_ hb2 (by first | assumption | (simp; done) | (simp <;> omega))
        have hown := Own.mv hown hch_ (fun b_ hb_ => by first | (simp; done) | (intro hm_; simp at hm_; subst hm_; contradiction))
        have hts : IsTs w' (b5 :: b3 :: b2 :: b1 :: oblk lv) (sh4 a b pa pb) xs := IsTs.mv hch_ (by intro y hy; first | (simp at hy; done) | (simp at hy; subst hy; simp; done) | (simp [hy]; done)) (fun x hx => .inl hx) _ _ hts
        have hib3 := hch_.lt hib3
        have hb3 := Ch.blk0 hch_ hb3 (by first | assumption | (simp; done) | (simp <;> omega))
        have hTg4 : IsT w' (b5 :: b3 :: b2 :: b1 :: oblk lv) (Tm.mk 3 0 [Tm.mk 1 2 [], Tm.mk 1 1 []]) [(vI 3), (vI 0), (vS g4 0 2 2)] := IsT.mv hch_ (by intro y hy; first | (simp at hy; done) | (simp at hy; subst hy; simp; done) | (simp [hy]; done)) (fun x hx => .inl hx) _ _ hTg4
        have hib5 := hch_.lt hib5
        have hb5 := Ch.blk0 hch_ hb5 (by first | assumption | (simp; done) | (simp <;> omega))
        have hfin_ : A1_2 (updV H1 28 (Value.agg #[(vI 2), (vI 0), (vS g6 0 1 1)])) w' := by rw [hA1_2]; exact ⟨hC, hib1, lob1, hb1, hib2, lob2, hb2, hown, hts, hnob2, hnob1, hib3, lob3, hb3, ne_b1_b3, ne_b2_b3, hnob3, hTg4, hib5, lob5, hb5, ne_b1_b5, ne_b2_b5, ne_b3_b5, hnob5, hTg6, rfl, trivial⟩
        exact R2.eff rfl hfin_ rfl (fun _ => Ch.gr hch_) rfl
       ·refine ⟨trivial, fun ph_ hp_ H1 w hW hfl_ => ?_⟩
        obtain rfl := memN_one hp_
        replace hW : A1_2 H1 w := hW
        rw [hA1_2] at hW
        obtain ⟨hC, hib1, lob1, hb1, hib2, lob2, hb2, hown, hts, hnob2, hnob1, hib3, lob3, hb3, ne_b1_b3, ne_b2_b3, hnob3, hTg4, hib5, lob5, hb5, ne_b1_b5, ne_b2_b5, ne_b3_b5, hnob5, hTg6, hv1_28, _⟩ := hW
        refine ⟨(some true), _, rfl, rfl, Ok1.sub (L' := [(79, vt), (80, (Value.agg #[(vB dh), vf])), (81, lv), (83, (Value.agg #[(vI 2), (vI 0), (vS (blk (H1 28)) 0 1 1)]))]) ⟨rfl, rfl, rfl, congrArg some hv1_28, trivial⟩ (Ok1.mono (ok_call c19 rfl (Knows_own (W := ⟨dh, false⟩) (known := sh4 a b pa pb) (t := pubOf (Tm.mk 1 1 [])) (shares_2 a b pa pb dh) _ (hT0 _ _ (hC.below hw0.size (by simp)) hw0) (by first | omega | (simp; omega)) (by first | exact hown | (rw [List.length_append]; exact hown)) hts (IsT.sub (X := (b5 :: b3 :: b2 :: b1 :: oblk lv)) (X' := []) hTg6 (by simp)))) ?_)⟩
        rintro _ w' ⟨rfl, hg_⟩
        have hch_ : Ch [] _ w' := Gr.ch hg_
        have hC := hC.trans' hch_ (fun z hz => .inr (absurd hz (by simp)))
        have hib1 := hch_.lt hib1
        have hb1 := Ch.blk0 hch_ hb1 (by first | assumption | (simp; done) | (simp <;> omega))
        have hib2 := hch_.lt hib2
        have hb2 := Ch.blk0 hch_ hb2 (by first | assumption | (simp; done) | (simp <;> omega))
        have hown := Own.mv hown hch_ (fun b_ hb_ => by first | (simp; done) | (intro hm_; simp at hm_; subst hm_; contradiction))
        have hts : IsTs w' (b5 :: b3 :: b2 :: b1 :: oblk lv) (sh4 a b pa pb) xs := IsTs.mv hch_ (by intro y hy; first | (simp at hy; done) | (simp at hy; subst hy; simp; done) | (simp [hy]; done)) (fun x hx => .inl hx) _ _ hts
        have hib3 := hch_.lt hib3
        have hb3 := Ch.blk0 hch_ hb3 (by first | assumption | (simp; done) | (simp <;> omega))
        have hTg4 : IsT w' (b5 :: b3 :: b2 :: b1 :: oblk lv) (Tm.mk 3 0 [Tm.mk 1 2 [], Tm.mk 1 1 []]) [(vI 3), (vI 0), (vS g4 0 2 2)] := IsT.mv hch_ (by intro y hy; first | (simp at hy; done) | (simp at hy; subst hy; simp; done) | (simp [hy]; done)) (fun x hx => .inl hx) _ _ hTg4
        have hib5 := hch_.lt hib5
        have hb5 := Ch.blk0 hch_ hb5 (by first | assumption | (simp; done) | (simp <;> omega))
        have hTg6 : IsT w' (b5 :: b3 :: b2 :: b1 :: oblk lv) (pubOf (Tm.mk 1 1 [])) [(vI 2), (vI 0), (vS (blk (H1 28)) 0 1 1)] := IsT.mv hch_ (by intro y hy; first | (simp at hy; done) | (simp at hy; subst hy; simp; done) | (simp [hy]; done)) (fun x hx => .inl hx) _ _ hTg6
        have hfin_ : A1_3 (updV H1 29 (vB (a || pa))) w' := by rw [hA1_3]; exact ⟨hC, hib1, lob1, hb1, hib2, lob2, hb2, hown, hts, hnob2, hnob1, hib3, lob3, hb3, ne_b1_b3, ne_b2_b3, hnob3, hTg4, hib5, lob5, hb5, ne_b1_b5, ne_b2_b5, ne_b3_b5, hnob5, hTg6, hv1_28, trivial⟩
        exact R2.eff rfl hfin_ rfl (fun _ => Ch.gr hch_) rfl
       ·exact GOb.pureG Gr.refl ⟨rfl, trivial⟩ rfl rfl (fun _ => rfl) rfl rfl (fun _ _ => d_move rfl)
       ·refine ⟨trivial, fun ph_ hp_ H1 w hW hfl_ => ?_⟩
        obtain rfl := memN_one hp_
        cases a <;> cases pa <;> exact ⟨some true, _, rfl, rfl, Det.og Gr.refl rfl rfl hW (d_bool (c := true) (d_eqlB Tryd.underlying4 rfl rfl) rfl)⟩
       ·exact GOb.pure Gr.refl trivial rfl rfl rfl (fun _ _ => d_pick (b := true) rfl rfl)
       ·exact GOb.pure Gr.refl trivial rfl rfl rfl (fun _ _ => d_move rfl)
       ·refine ⟨⟨rfl, trivial⟩, fun ph_ hp_ H1 w hW hfl_ => ?_⟩
        rcases memN_or hp_ with rfl | hp_
        ·have hW0 := hW
         replace hW : A1_3 H1 w := hW
         rw [hA1_3] at hW
         obtain ⟨hC, hib1, lob1, hb1, hib2, lob2, hb2, hown, hts, hnob2, hnob1, hib3, lob3, hb3, ne_b1_b3, ne_b2_b3, hnob3, hTg4, hib5, lob5, hb5, ne_b1_b5, ne_b2_b5, ne_b3_b5, hnob5, hTg6, hv1_28, _⟩ := hW
         exact ⟨(some true), _, rfl, rfl, Det.og Gr.refl rfl rfl hW0 (d_loadC Tryd.underlying31 rfl sz31 rfl ((At.of_blk hb3)) rfl)⟩
        rcases memN_or hp_ with rfl | hp_
        ·have hW0 := hW
         replace hW : A1_4 H1 w := hW
         rw [hA1_4] at hW
         obtain ⟨hC, hib1, lob1, hb1, hib2, lob2, hb2, hown, hts, hnob2, hnob1, hib3, lob3, hb3, ne_b1_b3, ne_b2_b3, hnob3, hTg4, hib5, lob5, hb5, ne_b1_b5, ne_b2_b5, ne_b3_b5, hnob5, hTg6, hv1_28, hib7, lob7, hb7, ne_b1_b7, ne_b2_b7, ne_b3_b7, ne_b5_b7, hnob7, hv1_35, _⟩ := hW
         exact ⟨(some true), _, rfl, rfl, Det.og Gr.refl rfl rfl hW0 (d_loadC Tryd.underlying31 rfl sz31 rfl ((At.of_blk hb3)) rfl)⟩
        rcases memN_or hp_ with rfl | hp_
        ·have hW0 := hW
         replace hW : A1_5 H1 w := hW
         rw [hA1_5] at hW
         obtain ⟨hC, hib1, lob1, hb1, hib2, lob2, hb2, hown, hts, hnob2, hnob1, hib3, lob3, hb3, ne_b1_b3, ne_b2_b3, hnob3, hTg4, hib5, lob5, hb5, ne_b1_b5, ne_b2_b5, ne_b3_b5, hnob5, hTg6, hv1_28, lob7, ne_b1_b7, ne_b2_b7, ne_b3_b7, ne_b5_b7, hv1_35, _⟩ := hW
         exact ⟨(some true), _, rfl, rfl, Det.og Gr.refl rfl rfl hW0 (d_loadC Tryd.underlying31 rfl sz31 rfl ((At.of_blk hb3)) rfl)⟩
        obtain rfl := memN_one hp_
        ·have hW0 := hW
         replace hW : A1_6 H1 w := hW
         rw [hA1_6] at hW
         obtain ⟨hC, hib1, lob1, hb1, hib2, lob2, hb2, hown, hts, hnob2, hnob1, hib3, lob3, hb3, ne_b1_b3, ne_b2_b3, hnob3, hTg4, hib5, lob5, hb5, ne_b1_b5, ne_b2_b5, ne_b3_b5, hnob5, hTg6, hv1_28, lob7, ne_b1_b7, ne_b2_b7, ne_b3_b7, ne_b5_b7, hv1_35, _⟩ := hW
         exact ⟨(some true), _, rfl, rfl, Det.og Gr.refl rfl rfl hW0 (d_loadC Tryd.underlying31 rfl sz31 rfl ((At.of_blk hb3)) rfl)⟩
       ·refine ⟨trivial, fun ph_ hp_ H1 w hW hfl_ => ?_⟩
        obtain rfl := memN_one hp_
        replace hW : A1_3 H1 w := hW
        rw [hA1_3] at hW
        obtain ⟨hC, hib1, lob1, hb1, hib2, lob2, hb2, hown, hts, hnob2, hnob1, hib3, lob3, hb3, ne_b1_b3, ne_b2_b3, hnob3, hTg4, hib5, lob5, hb5, ne_b1_b5, ne_b2_b5, ne_b3_b5, hnob5, hTg6, hv1_28, _⟩ := hW
        refine ⟨(some true), _, rfl, rfl, Ok1.mono (ok_buildSlice0 Tryd.underlying24 sz26) ?_⟩
        rintro _ w' ⟨b7, rfl, hnb_⟩
        have hch_ : Ch [] _ w' := hnb_.ch
        have lo_ := hnb_.lo hC.size
        have ne_b1_b7 := hnb_.gt hib1
        have ne_b2_b7 := hnb_.gt hib2
        have ne_b3_b7 := hnb_.gt hib3
        have ne_b5_b7 := hnb_.gt hib5
        have hTg4_ := hTg4
        have hTg6_ := hTg6
        have hts_ := hts
        have hnob7_ : b7 ∉ oblk lv := fun h_ => by have h1_ := (Own.lt hown _ h_).2; have h2_ := hnb_.num; omega
        have hC := hC.trans' hch_ (fun z hz => .inr (absurd hz (by simp)))
        have hib1 := hch_.lt hib1
        have hb1 := Ch.blk0 hch_ hb1 (by first | assumption | (simp; done) | (simp <;> omega))
        have hib2 := hch_.lt hib2
        have hb2 := Ch.blk0 hch_ hb2 (by first | assumption | (simp; done) | (simp <;> omega))
        have hown := Own.mv hown hch_ (fun b_ hb_ => by first | (simp; done) | (intro hm_; simp at hm_; subst hm_; contradiction))
        have hib3 := hch_.lt hib3
        have hb3 := Ch.blk0 hch_ hb3 (by first | assumption | (simp; done) | (simp <;> omega))
        have hib5 := hch_.lt hib5
        have hb5 := Ch.blk0 hch_ hb5 (by first | assumption | (simp; done) | (simp <;> omega))
        have hib7 : b7 < w'.heap.size := hnb_.lt
        have lob7 : w0.heap.size ≤ b7 := lo_
        have hb7 : w'.heap[b7]? = some (.cells #[] 26 (0, 0)) := hnb_.blk
        have ne_b1_b7 : b1 < b7 := ne_b1_b7
        have ne_b2_b7 : b2 < b7 := ne_b2_b7
        have ne_b3_b7 : b3 < b7 := ne_b3_b7
        have ne_b5_b7 : b5 < b7 := ne_b5_b7
        have hTg4 : IsT w' (b7 :: b5 :: b3 :: b2 :: b1 :: oblk lv) (Tm.mk 3 0 [Tm.mk 1 2 [], Tm.mk 1 1 []]) [(vI 3), (vI 0), (vS g4 0 2 2)] := IsT.mv hnb_.ch (by simp) (fun x hx => by rcases List.mem_cons.1 hx with rfl | hx; exact .inr (Nat.le_of_eq hnb_.num.symm); exact .inl hx) _ _ hTg4_
        have hTg6 : IsT w' (b7 :: b5 :: b3 :: b2 :: b1 :: oblk lv) (pubOf (Tm.mk 1 1 [])) [(vI 2), (vI 0), (vS (blk (H1 28)) 0 1 1)] := IsT.mv hnb_.ch (by simp) (fun x hx => by rcases List.mem_cons.1 hx with rfl | hx; exact .inr (Nat.le_of_eq hnb_.num.symm); exact .inl hx) _ _ hTg6_
        have hts : IsTs w' (b7 :: b5 :: b3 :: b2 :: b1 :: oblk lv) (sh4 a b pa pb) xs := IsTs.mv hnb_.ch (by simp) (fun x hx => by rcases List.mem_cons.1 hx with rfl | hx; exact .inr (Nat.le_of_eq hnb_.num.symm); exact .inl hx) _ _ hts_
        have hnob7 : b7 ∉ oblk lv := hnob7_
        have hfin_ : A1_4 (updV H1 35 (vS b7 0 0 0)) w' := by rw [hA1_4]; exact ⟨hC, hib1, lob1, hb1, hib2, lob2, hb2, hown, hts, hnob2, hnob1, hib3, lob3, hb3, ne_b1_b3, ne_b2_b3, hnob3, hTg4, hib5, lob5, hb5, ne_b1_b5, ne_b2_b5, ne_b3_b5, hnob5, hTg6, hv1_28, hib7, lob7, hb7, ne_b1_b7, ne_b2_b7, ne_b3_b7, ne_b5_b7, hnob7, rfl, trivial⟩
        exact R2.eff rfl hfin_ rfl (fun _ => Ch.gr hch_) rfl
       ·exact GOb.pureG Gr.refl ⟨rfl, trivial⟩ rfl rfl (fun _ => rfl) rfl rfl (fun _ _ => d_move rfl)
       ·refine ⟨trivial, fun ph_ hp_ H1 w hW hfl_ => ?_⟩
        obtain rfl := memN_one hp_
        replace hW : A1_4 H1 w := hW
        rw [hA1_4] at hW
        obtain ⟨hC, hib1, lob1, hb1, hib2, lob2, hb2, hown, hts, hnob2, hnob1, hib3, lob3, hb3, ne_b1_b3, ne_b2_b3, hnob3, hTg4, hib5, lob5, hb5, ne_b1_b5, ne_b2_b5, ne_b3_b5, hnob5, hTg6, hv1_28, hib7, lob7, hb7, ne_b1_b7, ne_b2_b7, ne_b3_b7, ne_b5_b7, hnob7, hv1_35, _⟩ := hW
        refine ⟨(some true), _, rfl, rfl, Ok1.sub (L' := [(88, vt), (90, (vS (blk (H1 35)) 0 0 0)), (91, lv)]) ⟨rfl, congrArg some hv1_35, rfl, trivial⟩ (Ok1.mono (ok_append00 (m := 3) Tryd.underlying24 ii26 rfl (by decide) rfl rfl hb7 lob7 hown (IsTs.cells1 hts) (by omega) (by unfold maxLen; omega) hC.size) ?_)⟩
        rintro lv8 w' ⟨hown, hch0_, hob⟩
        have hch_ : Ch [] _ w' := hch0_
        have hob : oblk lv8 = [(blk (H1 35))] ∨ oblk lv8 = [_] := hob
        have hxx_ : ∀ x, x ∈ (b5 :: b3 :: b2 :: b1 :: oblk lv8) → x ∈ ((blk (H1 35)) :: b5 :: b3 :: b2 :: b1 :: oblk lv) ∨ _ ≤ x := fun x hx => by
         simp only [List.mem_cons] at hx ⊢
         rcases hx with h_ | h_ | h_ | h_ | hx
         ·exact .inl (by simp [h_])
         ·exact .inl (by simp [h_])
         ·exact .inl (by simp [h_])
         ·exact .inl (by simp [h_])
         ·rcases hob with hob | hob
          ·rw [hob] at hx; simp at hx; exact .inl (by simp [hx])
          ·rw [hob] at hx; simp at hx; exact .inr (Nat.le_of_eq hx.symm)
        have hnxb5_ := nin_ob (lv := .slice (some ⟨(blk (H1 35)), 0, none⟩) 0 0) hob (by simp [oblk] <;> omega) hib5
        have hnxb3_ := nin_ob (lv := .slice (some ⟨(blk (H1 35)), 0, none⟩) 0 0) hob (by simp [oblk] <;> omega) hib3
        have hnxb2_ := nin_ob (lv := .slice (some ⟨(blk (H1 35)), 0, none⟩) 0 0) hob (by simp [oblk] <;> omega) hib2
        have hnxb1_ := nin_ob (lv := .slice (some ⟨(blk (H1 35)), 0, none⟩) 0 0) hob (by simp [oblk] <;> omega) hib1
        have hC := hC.trans' hch_ (fun z hz => .inr (absurd hz (by simp)))
        have hib1 := hch_.lt hib1
        have hb1 := Ch.blk0 hch_ hb1 (by first | assumption | (simp; done) | (simp <;> omega))
        have hib2 := hch_.lt hib2
        have hb2 := Ch.blk0 hch_ hb2 (by first | assumption | (simp; done) | (simp <;> omega))
        have hib3 := hch_.lt hib3
        have hb3 := Ch.blk0 hch_ hb3 (by first | assumption | (simp; done) | (simp <;> omega))
        have hib5 := hch_.lt hib5
        have hb5 := Ch.blk0 hch_ hb5 (by first | assumption | (simp; done) | (simp <;> omega))
        have hown : Own w' w0.heap.size 26 3 lv8 (sh4 a b pa pb).length xs := hown
        have hts : IsTs w' (b5 :: b3 :: b2 :: b1 :: oblk lv8) (sh4 a b pa pb) xs := IsTs.mv hch_ (by simp) hxx_ _ _ hts
        have hnob5 : b5 ∉ oblk lv8 := hnxb5_
        have hnob3 : b3 ∉ oblk lv8 := hnxb3_
        have hnob2 : b2 ∉ oblk lv8 := hnxb2_
        have hnob1 : b1 ∉ oblk lv8 := hnxb1_
        have hTg4 : IsT w' (b5 :: b3 :: b2 :: b1 :: oblk lv8) (Tm.mk 3 0 [Tm.mk 1 2 [], Tm.mk 1 1 []]) [(vI 3), (vI 0), (vS g4 0 2 2)] := IsT.mv hch_ (by simp) hxx_ _ _ hTg4
        have hTg6 : IsT w' (b5 :: b3 :: b2 :: b1 :: oblk lv8) (pubOf (Tm.mk 1 1 [])) [(vI 2), (vI 0), (vS (blk (H1 28)) 0 1 1)] := IsT.mv hch_ (by simp) hxx_ _ _ hTg6
        have hfin_ : A1_5 (updV H1 37 lv8) w' := by rw [hA1_5]; exact ⟨hC, hib1, lob1, hb1, hib2, lob2, hb2, hown, hts, hnob2, hnob1, hib3, lob3, hb3, ne_b1_b3, ne_b2_b3, hnob3, hTg4, hib5, lob5, hb5, ne_b1_b5, ne_b2_b5, ne_b3_b5, hnob5, hTg6, hv1_28, lob7, ne_b1_b7, ne_b2_b7, ne_b3_b7, ne_b5_b7, hv1_35, trivial⟩
        exact R2.eff rfl hfin_ rfl (fun _ => Ch.gr hch_) rfl
       ·refine ⟨⟨rfl, trivial⟩, fun ph_ hp_ H1 w hW hfl_ => ?_⟩
        rcases memN_or hp_ with rfl | hp_
        ·have hW0 := hW
         replace hW : A1_3 H1 w := hW
         rw [hA1_3] at hW
         obtain ⟨hC, hib1, lob1, hb1, hib2, lob2, hb2, hown, hts, hnob2, hnob1, hib3, lob3, hb3, ne_b1_b3, ne_b2_b3, hnob3, hTg4, hib5, lob5, hb5, ne_b1_b5, ne_b2_b5, ne_b3_b5, hnob5, hTg6, hv1_28, _⟩ := hW
         exact ⟨(some true), _, rfl, rfl, Det.og Gr.refl rfl rfl hW0 (d_loadC Tryd.underlying26 rfl sz26 rfl ((At.of_blk hb5)) rfl)⟩
        rcases memN_or hp_ with rfl | hp_
        ·have hW0 := hW
         replace hW : A1_4 H1 w := hW
         rw [hA1_4] at hW
         obtain ⟨hC, hib1, lob1, hb1, hib2, lob2, hb2, hown, hts, hnob2, hnob1, hib3, lob3, hb3, ne_b1_b3, ne_b2_b3, hnob3, hTg4, hib5, lob5, hb5, ne_b1_b5, ne_b2_b5, ne_b3_b5, hnob5, hTg6, hv1_28, hib7, lob7, hb7, ne_b1_b7, ne_b2_b7, ne_b3_b7, ne_b5_b7, hnob7, hv1_35, _⟩ := hW
         exact ⟨(some true), _, rfl, rfl, Det.og Gr.refl rfl rfl hW0 (d_loadC Tryd.underlying26 rfl sz26 rfl ((At.of_blk hb5)) rfl)⟩
        obtain rfl := memN_one hp_
        ·have hW0 := hW
         replace hW : A1_5 H1 w := hW
         rw [hA1_5] at hW
         obtain ⟨hC, hib1, lob1, hb1, hib2, lob2, hb2, hown, hts, hnob2, hnob1, hib3, lob3, hb3, ne_b1_b3, ne_b2_b3, hnob3, hTg4, hib5, lob5, hb5, ne_b1_b5, ne_b2_b5, ne_b3_b5, hnob5, hTg6, hv1_28, lob7, ne_b1_b7, ne_b2_b7, ne_b3_b7, ne_b5_b7, hv1_35, _⟩ := hW
         exact ⟨(some true), _, rfl, rfl, Det.og Gr.refl rfl rfl hW0 (d_loadC Tryd.underlying26 rfl sz26 rfl ((At.of_blk hb5)) rfl)⟩
       ·refine ⟨trivial, fun ph_ hp_ H1 w hW hfl_ => ?_⟩
        rcases memN_or hp_ with rfl | hp_
        ·replace hW : A1_3 H1 w := hW
         rw [hA1_3] at hW
         obtain ⟨hC, hib1, lob1, hb1, hib2, lob2, hb2, hown, hts, hnob2, hnob1, hib3, lob3, hb3, ne_b1_b3, ne_b2_b3, hnob3, hTg4, hib5, lob5, hb5, ne_b1_b5, ne_b2_b5, ne_b3_b5, hnob5, hTg6, hv1_28, _⟩ := hW
         refine ⟨(some true), _, rfl, rfl, Ok1.mono (ok_buildSlice (cells := #[(vI 3), (vI 0), (vS g4 0 2 2)]) Tryd.underlying24 zz26 rfl (by decide) (by decide) (by exact fillT1)) ?_⟩
         rintro _ w' ⟨b9, rfl, hnb_⟩
         have hch_ : Ch [] _ w' := hnb_.ch
         have hC := hC.trans' hch_ (fun z hz => .inr (absurd hz (by simp)))
         have hib1 := hch_.lt hib1
         have hb1 := Ch.blk0 hch_ hb1 (by first | assumption | (simp; done) | (simp <;> omega))
         have hib2 := hch_.lt hib2
         have hb2 := Ch.blk0 hch_ hb2 (by first | assumption | (simp; done) | (simp <;> omega))
         have hown := Own.mv hown hch_ (fun b_ hb_ => by first | (simp; done) | (intro hm_; simp at hm_; subst hm_; contradiction))
         have hts : IsTs w' (b5 :: b3 :: b2 :: b1 :: oblk lv) (sh4 a b pa pb) xs := IsTs.mv hch_ (by intro y hy; first | (simp at hy; done) | (simp at hy; subst hy; simp; done) | (simp [hy]; done)) (fun x hx => .inl hx) _ _ hts
         have hib3 := hch_.lt hib3
         have hb3 := Ch.blk0 hch_ hb3 (by first | assumption | (simp; done) | (simp <;> omega))
         have hTg4 : IsT w' (b5 :: b3 :: b2 :: b1 :: oblk lv) (Tm.mk 3 0 [Tm.mk 1 2 [], Tm.mk 1 1 []]) [(vI 3), (vI 0), (vS g4 0 2 2)] := IsT.mv hch_ (by intro y hy; first | (simp at hy; done) | (simp at hy; subst hy; simp; done) | (simp [hy]; done)) (fun x hx => .inl hx) _ _ hTg4
         have hib5 := hch_.lt hib5
         have hb5 := Ch.blk0 hch_ hb5 (by first | assumption | (simp; done) | (simp <;> omega))
         have hTg6 : IsT w' (b5 :: b3 :: b2 :: b1 :: oblk lv) (pubOf (Tm.mk 1 1 [])) [(vI 2), (vI 0), (vS (blk (H1 28)) 0 1 1)] := IsT.mv hch_ (by intro y hy; first | (simp at hy; done) | (simp at hy; subst hy; simp; done) | (simp [hy]; done)) (fun x hx => .inl hx) _ _ hTg6
         have hb9 : At w' b9 0 [(vI 3), (vI 0), (vS g4 0 2 2)] := hnb_.at
         have hfin_ : A1_3 (updV H1 39 (vS b9 0 1 1)) w' := by rw [hA1_3]; exact ⟨hC, hib1, lob1, hb1, hib2, lob2, hb2, hown, hts, hnob2, hnob1, hib3, lob3, hb3, ne_b1_b3, ne_b2_b3, hnob3, hTg4, hib5, lob5, hb5, ne_b1_b5, ne_b2_b5, ne_b3_b5, hnob5, hTg6, hv1_28, trivial⟩
         exact R2.flo rfl rfl hfin_ rfl (Ch.gr hch_) ⟨rfl, hb9⟩
        rcases memN_or hp_ with rfl | hp_
        ·replace hW : A1_4 H1 w := hW
         rw [hA1_4] at hW
         obtain ⟨hC, hib1, lob1, hb1, hib2, lob2, hb2, hown, hts, hnob2, hnob1, hib3, lob3, hb3, ne_b1_b3, ne_b2_b3, hnob3, hTg4, hib5, lob5, hb5, ne_b1_b5, ne_b2_b5, ne_b3_b5, hnob5, hTg6, hv1_28, hib7, lob7, hb7, ne_b1_b7, ne_b2_b7, ne_b3_b7, ne_b5_b7, hnob7, hv1_35, _⟩ := hW
         refine ⟨(some true), _, rfl, rfl, Ok1.mono (ok_buildSlice (cells := #[(vI 3), (vI 0), (vS g4 0 2 2)]) Tryd.underlying24 zz26 rfl (by decide) (by decide) (by exact fillT1)) ?_⟩
         rintro _ w' ⟨b9, rfl, hnb_⟩
         have hch_ : Ch [] _ w' := hnb_.ch
         have hC := hC.trans' hch_ (fun z hz => .inr (absurd hz (by simp)))
         have hib1 := hch_.lt hib1
         have hb1 := Ch.blk0 hch_ hb1 (by first | assumption | (simp; done) | (simp <;> omega))
         have hib2 := hch_.lt hib2
         have hb2 := Ch.blk0 hch_ hb2 (by first | assumption | (simp; done) | (simp <;> omega))
         have hown := Own.mv hown hch_ (fun b_ hb_ => by first | (simp; done) | (intro hm_; simp at hm_; subst hm_; contradiction))
         have hts : IsTs w' ((blk (H1 35)) :: b5 :: b3 :: b2 :: b1 :: oblk lv) (sh4 a b pa pb) xs := IsTs.mv hch_ (by intro y hy; first | (simp at hy; done) | (simp at hy; subst hy; simp; done) | (simp [hy]; done)) (fun x hx => .inl hx) _ _ hts
         have hib3 := hch_.lt hib3
         have hb3 := Ch.blk0 hch_ hb3 (by first | assumption | (simp; done) | (simp <;> omega))
         have hTg4 : IsT w' ((blk (H1 35)) :: b5 :: b3 :: b2 :: b1 :: oblk lv) (Tm.mk 3 0 [Tm.mk 1 2 [], Tm.mk 1 1 []]) [(vI 3), (vI 0), (vS g4 0 2 2)] := IsT.mv hch_ (by intro y hy; first | (simp at hy; done) | (simp at hy; subst hy; simp; done) | (simp [hy]; done)) (fun x hx => .inl hx) _ _ hTg4
         have hib5 := hch_.lt hib5
         have hb5 := Ch.blk0 hch_ hb5 (by first | assumption | (simp; done) | (simp <;> omega))
         have hTg6 : IsT w' ((blk (H1 35)) :: b5 :: b3 :: b2 :: b1 :: oblk lv) (pubOf (Tm.mk 1 1 [])) [(vI 2), (vI 0), (vS (blk (H1 28)) 0 1 1)] := IsT.mv hch_ (by intro y hy; first | (simp at hy; done) | (simp at hy; subst hy; simp; done) | (simp [hy]; done)) (fun x hx => .inl hx) _ _ hTg6
         have hib7 := hch_.lt hib7
         have hb7 := Ch.blk0 hch_ hb7 (by first | assumption | (simp; done) | (simp <;> omega))
         have hb9 : At w' b9 0 [(vI 3), (vI 0), (vS g4 0 2 2)] := hnb_.at
         have hfin_ : A1_4 (updV H1 39 (vS b9 0 1 1)) w' := by rw [hA1_4]; exact ⟨hC, hib1, lob1, hb1, hib2, lob2, hb2, hown, hts, hnob2, hnob1, hib3, lob3, hb3, ne_b1_b3, ne_b2_b3, hnob3, hTg4, hib5, lob5, hb5, ne_b1_b5, ne_b2_b5, ne_b3_b5, hnob5, hTg6, hv1_28, hib7, lob7, hb7, ne_b1_b7, ne_b2_b7, ne_b3_b7, ne_b5_b7, hnob7, hv1_35, trivial⟩
         exact R2.flo rfl rfl hfin_ rfl (Ch.gr hch_) ⟨rfl, hb9⟩
        obtain rfl := memN_one hp_
        ·replace hW : A1_5 H1 w := hW
         rw [hA1_5] at hW
         obtain ⟨hC, hib1, lob1, hb1, hib2, lob2, hb2, hown, hts, hnob2, hnob1, hib3, lob3, hb3, ne_b1_b3, ne_b2_b3, hnob3, hTg4, hib5, lob5, hb5, ne_b1_b5, ne_b2_b5, ne_b3_b5, hnob5, hTg6, hv1_28, lob7, ne_b1_b7, ne_b2_b7, ne_b3_b7, ne_b5_b7, hv1_35, _⟩ := hW
         refine ⟨(some true), _, rfl, rfl, Ok1.mono (ok_buildSlice (cells := #[(vI 3), (vI 0), (vS g4 0 2 2)]) Tryd.underlying24 zz26 rfl (by decide) (by decide) (by exact fillT1)) ?_⟩
         rintro _ w' ⟨b9, rfl, hnb_⟩
         have hch_ : Ch [] _ w' := hnb_.ch
         have hC := hC.trans' hch_ (fun z hz => .inr (absurd hz (by simp)))
         have hib1 := hch_.lt hib1
         have hb1 := Ch.blk0 hch_ hb1 (by first | assumption | (simp; done) | (simp <;> omega))
         have hib2 := hch_.lt hib2
         have hb2 := Ch.blk0 hch_ hb2 (by first | assumption | (simp; done) | (simp <;> omega))
         have hown := Own.mv hown hch_ (fun b_ hb_ => by first | (simp; done) | (intro hm_; simp at hm_; subst hm_; contradiction))
         have hts : IsTs w' (b5 :: b3 :: b2 :: b1 :: oblk (H1 37)) (sh4 a b pa pb) xs := IsTs.mv hch_ (by intro y hy; first | (simp at hy; done) | (simp at hy; subst hy; simp; done) | (simp [hy]; done)) (fun x hx => .inl hx) _ _ hts
         have hib3 := hch_.lt hib3
         have hb3 := Ch.blk0 hch_ hb3 (by first | assumption | (simp; done) | (simp <;> omega))
         have hTg4 : IsT w' (b5 :: b3 :: b2 :: b1 :: oblk (H1 37)) (Tm.mk 3 0 [Tm.mk 1 2 [], Tm.mk 1 1 []]) [(vI 3), (vI 0), (vS g4 0 2 2)] := IsT.mv hch_ (by intro y hy; first | (simp at hy; done) | (simp at hy; subst hy; simp; done) | (simp [hy]; done)) (fun x hx => .inl hx) _ _ hTg4
         have hib5 := hch_.lt hib5
         have hb5 := Ch.blk0 hch_ hb5 (by first | assumption | (simp; done) | (simp <;> omega))
         have hTg6 : IsT w' (b5 :: b3 :: b2 :: b1 :: oblk (H1 37)) (pubOf (Tm.mk 1 1 [])) [(vI 2), (vI 0), (vS (blk (H1 28)) 0 1 1)] := IsT.mv hch_ (by intro y hy; first | (simp at hy; done) | (simp at hy; subst hy; simp; done) | (simp [hy]; done)) (fun x hx => .inl hx) _ _ hTg6
         have hb9 : At w' b9 0 [(vI 3), (vI 0), (vS g4 0 2 2)] := hnb_.at
         have hfin_ : A1_5 (updV H1 39 (vS b9 0 1 1)) w' := by rw [hA1_5]; exact ⟨hC, hib1, lob1, hb1, hib2, lob2, hb2, hown, hts, hnob2, hnob1, hib3, lob3, hb3, ne_b1_b3, ne_b2_b3, hnob3, hTg4, hib5, lob5, hb5, ne_b1_b5, ne_b2_b5, ne_b3_b5, hnob5, hTg6, hv1_28, lob7, ne_b1_b7, ne_b2_b7, ne_b3_b7, ne_b5_b7, hv1_35, trivial⟩
         exact R2.flo rfl rfl hfin_ rfl (Ch.gr hch_) ⟨rfl, hb9⟩
       ·refine ⟨trivial, fun ph_ hp_ H1 w hW hfl_ => ?_⟩
        obtain rfl := memN_one hp_
        replace hW : A1_5 H1 w := hW
        rw [hA1_5] at hW
        obtain ⟨hC, hib1, lob1, hb1, hib2, lob2, hb2, hown, hts, hnob2, hnob1, hib3, lob3, hb3, ne_b1_b3, ne_b2_b3, hnob3, hTg4, hib5, lob5, hb5, ne_b1_b5, ne_b2_b5, ne_b3_b5, hnob5, hTg6, hv1_28, lob7, ne_b1_b7, ne_b2_b7, ne_b3_b7, ne_b5_b7, hv1_35, _⟩ := hW
        obtain ⟨hv1_39, hb9⟩ := hfl_ (by decide) 39 (by simp) (by decide) rfl
        have hown0_ := hown
        refine ⟨(some true), _, rfl, rfl, Ok1.sub (L' := [(88, vt), (92, (H1 37)), (94, (vS (blk (H1 39)) 0 1 1))]) ⟨rfl, rfl, congrArg some hv1_39, trivial⟩ (Ok1.mono (ok_appendm (m := 3) (k := 1) (b := (blk (H1 39))) (o := 0) (news := [(vI 3), (vI 0), (vS g4 0 2 2)]) Tryd.underlying24 ii26 rfl (by decide) rfl rfl hown rfl hb9 (IsT.cells1 hTg4) (by omega) (by unfold maxLen; omega) hC.size) ?_)⟩
        rintro lv10 w' ⟨hown, hch0_, hob⟩
        have hch_ : Ch (oblk (H1 37)) _ w' := hch0_
        have hxx_ : ∀ x, x ∈ (b5 :: b3 :: b2 :: b1 :: oblk lv10) → x ∈ (b5 :: b3 :: b2 :: b1 :: oblk (H1 37)) ∨ _ ≤ x := fun x hx => by
         simp only [List.mem_cons] at hx ⊢
         rcases hx with h_ | h_ | h_ | h_ | hx
         ·exact .inl (by simp [h_])
         ·exact .inl (by simp [h_])
         ·exact .inl (by simp [h_])
         ·exact .inl (by simp [h_])
         ·rcases hob with hob | hob
          ·rw [hob] at hx; exact .inl (by simp [hx])
          ·rw [hob] at hx; simp at hx; exact .inr (Nat.le_of_eq hx.symm)
        have hnxb5_ := nin_ob hob hnob5 hib5
        have hnxb3_ := nin_ob hob hnob3 hib3
        have hnxb2_ := nin_ob hob hnob2 hib2
        have hnxb1_ := nin_ob hob hnob1 hib1
        have hC := hC.trans' hch_ (fun z hz => .inr ((Own.lt hown0_ z hz).1))
        have hib1 := hch_.lt hib1
        have hb1 := Ch.blk0 hch_ hb1 (by first | assumption | (simp; done) | (simp <;> omega))
        have hib2 := hch_.lt hib2
        have hb2 := Ch.blk0 hch_ hb2 (by first | assumption | (simp; done) | (simp <;> omega))
        have hib3 := hch_.lt hib3
        have hb3 := Ch.blk0 hch_ hb3 (by first | assumption | (simp; done) | (simp <;> omega))
        have hib5 := hch_.lt hib5
        have hb5 := Ch.blk0 hch_ hb5 (by first | assumption | (simp; done) | (simp <;> omega))
        have hts : IsTs w' (b5 :: b3 :: b2 :: b1 :: oblk lv10) ((sh4 a b pa pb) ++ [Tm.mk 3 0 [Tm.mk 1 2 [], Tm.mk 1 1 []]]) (xs ++ [(vI 3), (vI 0), (vS g4 0 2 2)]) := (IsTs.mv hch_ (fun y hy => by simp [hy]) hxx_ _ _ hts).app (IsTs.one (IsT.mv hch_ (fun y hy => by simp [hy]) hxx_ _ _ hTg4))
        have hTg4 : IsT w' (b5 :: b3 :: b2 :: b1 :: oblk lv10) (Tm.mk 3 0 [Tm.mk 1 2 [], Tm.mk 1 1 []]) [(vI 3), (vI 0), (vS g4 0 2 2)] := IsT.mv hch_ (fun y hy => by simp [hy]) hxx_ _ _ hTg4
        have hTg6 : IsT w' (b5 :: b3 :: b2 :: b1 :: oblk lv10) (pubOf (Tm.mk 1 1 [])) [(vI 2), (vI 0), (vS (blk (H1 28)) 0 1 1)] := IsT.mv hch_ (fun y hy => by simp [hy]) hxx_ _ _ hTg6
        have hnob5 : b5 ∉ oblk lv10 := hnxb5_
        have hnob3 : b3 ∉ oblk lv10 := hnxb3_
        have hnob2 : b2 ∉ oblk lv10 := hnxb2_
        have hnob1 : b1 ∉ oblk lv10 := hnxb1_
        have hfin_ : A1_6 (updV H1 40 lv10) w' := by rw [hA1_6]; exact ⟨hC, hib1, lob1, hb1, hib2, lob2, hb2, hown, hts, hnob2, hnob1, hib3, lob3, hb3, ne_b1_b3, ne_b2_b3, hnob3, hTg4, hib5, lob5, hb5, ne_b1_b5, ne_b2_b5, ne_b3_b5, hnob5, hTg6, hv1_28, lob7, ne_b1_b7, ne_b2_b7, ne_b3_b7, ne_b5_b7, hv1_35, trivial⟩
        exact R2.eff rfl hfin_ rfl (fun h_ => absurd h_ (by decide)) rfl
       ·refine ⟨⟨rfl, trivial⟩, fun ph_ hp_ H1 w hW hfl_ => ?_⟩
        rcases memN_or hp_ with rfl | hp_
        ·have hW0 := hW
         replace hW : A1_3 H1 w := hW
         rw [hA1_3] at hW
         obtain ⟨hC, hib1, lob1, hb1, hib2, lob2, hb2, hown, hts, hnob2, hnob1, hib3, lob3, hb3, ne_b1_b3, ne_b2_b3, hnob3, hTg4, hib5, lob5, hb5, ne_b1_b5, ne_b2_b5, ne_b3_b5, hnob5, hTg6, hv1_28, _⟩ := hW
         exact ⟨(some true), _, rfl, rfl, Det.og Gr.refl rfl rfl hW0 (d_loadC Tryd.underlying26 rfl sz26 rfl ((At.of_blk hb1)) rfl)⟩
        rcases memN_or hp_ with rfl | hp_
        ·have hW0 := hW
         replace hW : A1_4 H1 w := hW
         rw [hA1_4] at hW
         obtain ⟨hC, hib1, lob1, hb1, hib2, lob2, hb2, hown, hts, hnob2, hnob1, hib3, lob3, hb3, ne_b1_b3, ne_b2_b3, hnob3, hTg4, hib5, lob5, hb5, ne_b1_b5, ne_b2_b5, ne_b3_b5, hnob5, hTg6, hv1_28, hib7, lob7, hb7, ne_b1_b7, ne_b2_b7, ne_b3_b7, ne_b5_b7, hnob7, hv1_35, _⟩ := hW
         exact ⟨(some true), _, rfl, rfl, Det.og Gr.refl rfl rfl hW0 (d_loadC Tryd.underlying26 rfl sz26 rfl ((At.of_blk hb1)) rfl)⟩
        rcases memN_or hp_ with rfl | hp_
        ·have hW0 := hW
         replace hW : A1_5 H1 w := hW
         rw [hA1_5] at hW
         obtain ⟨hC, hib1, lob1, hb1, hib2, lob2, hb2, hown, hts, hnob2, hnob1, hib3, lob3, hb3, ne_b1_b3, ne_b2_b3, hnob3, hTg4, hib5, lob5, hb5, ne_b1_b5, ne_b2_b5, ne_b3_b5, hnob5, hTg6, hv1_28, lob7, ne_b1_b7, ne_b2_b7, ne_b3_b7, ne_b5_b7, hv1_35, _⟩ := hW
         exact ⟨(some true), _, rfl, rfl, Det.og Gr.refl rfl rfl hW0 (d_loadC Tryd.underlying26 rfl sz26 rfl ((At.of_blk hb1)) rfl)⟩
        obtain rfl := memN_one hp_
        ·have hW0 := hW
         replace hW : A1_6 H1 w := hW
         rw [hA1_6] at hW
         obtain ⟨hC, hib1, lob1, hb1, hib2, lob2, hb2, hown, hts, hnob2, hnob1, hib3, lob3, hb3, ne_b1_b3, ne_b2_b3, hnob3, hTg4, hib5, lob5, hb5, ne_b1_b5, ne_b2_b5, ne_b3_b5, hnob5, hTg6, hv1_28, lob7, ne_b1_b7, ne_b2_b7, ne_b3_b7, ne_b5_b7, hv1_35, _⟩ := hW
         exact ⟨(some true), _, rfl, rfl, Det.og Gr.refl rfl rfl hW0 (d_loadC Tryd.underlying26 rfl sz26 rfl ((At.of_blk hb1)) rfl)⟩
       ·refine ⟨trivial, fun ph_ hp_ H1 w hW hfl_ => ?_⟩
        obtain rfl := memN_one hp_
        replace hW : A1_6 H1 w := hW
        rw [hA1_6] at hW
        obtain ⟨hC, hib1, lob1, hb1, hib2, lob2, hb2, hown, hts, hnob2, hnob1, hib3, lob3, hb3, ne_b1_b3, ne_b2_b3, hnob3, hTg4, hib5, lob5, hb5, ne_b1_b5, ne_b2_b5, ne_b3_b5, hnob5, hTg6, hv1_28, lob7, ne_b1_b7, ne_b2_b7, ne_b3_b7, ne_b5_b7, hv1_35, _⟩ := hW
        refine ⟨(some true), _, rfl, rfl, Ok1.mono (ok_call c19 rfl (Knows_own (W := ⟨dh, false⟩) (known := (sh4 a b pa pb) ++ [Tm.mk 3 0 [Tm.mk 1 2 [], Tm.mk 1 1 []]]) (t := Tm.mk 1 1 []) (shares_3 a b pa pb dh) _ (hT0 _ _ (hC.below hw0.size (by simp)) hw0) (by first | omega | (simp; omega)) (by first | exact hown | (rw [List.length_append]; exact hown)) hts (IsT.sub (X := (b5 :: b3 :: b2 :: b1 :: oblk (H1 40))) (X' := []) (isT_atom _ _ _) (by simp)))) ?_⟩
        rintro _ w' ⟨rfl, hg_⟩
        have hch_ : Ch [] _ w' := Gr.ch hg_
        have hC := hC.trans' hch_ (fun z hz => .inr (absurd hz (by simp)))
        have hib1 := hch_.lt hib1
        have hb1 := Ch.blk0 hch_ hb1 (by first | assumption | (simp; done) | (simp <;> omega))
        have hib2 := hch_.lt hib2
        have hb2 := Ch.blk0 hch_ hb2 (by first | assumption | (simp; done) | (simp <;> omega))
        have hown := Own.mv hown hch_ (fun b_ hb_ => by first | (simp; done) | (intro hm_; simp at hm_; subst hm_; contradiction))
        have hts : IsTs w' (b5 :: b3 :: b2 :: b1 :: oblk (H1 40)) ((sh4 a b pa pb) ++ [Tm.mk 3 0 [Tm.mk 1 2 [], Tm.mk 1 1 []]]) (xs ++ [(vI 3), (vI 0), (vS g4 0 2 2)]) := IsTs.mv hch_ (by intro y hy; first | (simp at hy; done) | (simp at hy; subst hy; simp; done) | (simp [hy]; done)) (fun x hx => .inl hx) _ _ hts
        have hib3 := hch_.lt hib3
        have hb3 := Ch.blk0 hch_ hb3 (by first | assumption | (simp; done) | (simp <;> omega))
        have hTg4 : IsT w' (b5 :: b3 :: b2 :: b1 :: oblk (H1 40)) (Tm.mk 3 0 [Tm.mk 1 2 [], Tm.mk 1 1 []]) [(vI 3), (vI 0), (vS g4 0 2 2)] := IsT.mv hch_ (by intro y hy; first | (simp at hy; done) | (simp at hy; subst hy; simp; done) | (simp [hy]; done)) (fun x hx => .inl hx) _ _ hTg4
        have hib5 := hch_.lt hib5
        have hb5 := Ch.blk0 hch_ hb5 (by first | assumption | (simp; done) | (simp <;> omega))
        have hTg6 : IsT w' (b5 :: b3 :: b2 :: b1 :: oblk (H1 40)) (pubOf (Tm.mk 1 1 [])) [(vI 2), (vI 0), (vS (blk (H1 28)) 0 1 1)] := IsT.mv hch_ (by intro y hy; first | (simp at hy; done) | (simp at hy; subst hy; simp; done) | (simp [hy]; done)) (fun x hx => .inl hx) _ _ hTg6
        have hfin_ : A1_7 (updV H1 42 (vB a)) w' := by rw [hA1_7]; exact ⟨hC, hib1, lob1, hb1, hib2, lob2, hb2, hown, hts, hnob2, hnob1, hib3, lob3, hb3, ne_b1_b3, ne_b2_b3, hnob3, hTg4, hib5, lob5, hb5, ne_b1_b5, ne_b2_b5, ne_b3_b5, hnob5, hTg6, hv1_28, lob7, ne_b1_b7, ne_b2_b7, ne_b3_b7, ne_b5_b7, hv1_35, trivial⟩
        exact R2.eff rfl hfin_ rfl (fun h_ => absurd h_ (by decide)) rfl
       ·exact GOb.pureG Gr.refl ⟨rfl, trivial⟩ rfl rfl (fun _ => rfl) rfl rfl (fun _ _ => d_move rfl)
       ·refine ⟨trivial, fun ph_ hp_ H1 w hW hfl_ => ?_⟩
        obtain rfl := memN_one hp_
        cases a <;> exact ⟨some true, _, rfl, rfl, Det.og Gr.refl rfl rfl hW (d_bool (c := true) (d_eqlB Tryd.underlying4 rfl rfl) rfl)⟩
       ·exact GOb.pure Gr.refl trivial rfl rfl rfl (fun _ _ => d_pick (b := true) rfl rfl)
       ·exact GOb.pure Gr.refl trivial rfl rfl rfl (fun _ _ => d_move rfl)
       ·refine ⟨trivial, fun ph_ hp_ H1 w hW hfl_ => ?_⟩
        obtain rfl := memN_one hp_
        replace hW : A1_7 H1 w := hW
        rw [hA1_7] at hW
        obtain ⟨hC, hib1, lob1, hb1, hib2, lob2, hb2, hown, hts, hnob2, hnob1, hib3, lob3, hb3, ne_b1_b3, ne_b2_b3, hnob3, hTg4, hib5, lob5, hb5, ne_b1_b5, ne_b2_b5, ne_b3_b5, hnob5, hTg6, hv1_28, lob7, ne_b1_b7, ne_b2_b7, ne_b3_b7, ne_b5_b7, hv1_35, _⟩ := hW
        refine ⟨(some true), _, rfl, rfl, Ok1.mono (ok_call c15 rfl (awake_calls _ (hT0 _ _ (hC.below hw0.size (by simp)) hw0))) ?_⟩
        rintro _ w' ⟨rfl, hg_⟩
        have hch_ : Ch [] _ w' := Gr.ch hg_
        have hC := hC.trans' hch_ (fun z hz => .inr (absurd hz (by simp)))
        have hib1 := hch_.lt hib1
        have hb1 := Ch.blk0 hch_ hb1 (by first | assumption | (simp; done) | (simp <;> omega))
        have hib2 := hch_.lt hib2
        have hb2 := Ch.blk0 hch_ hb2 (by first | assumption | (simp; done) | (simp <;> omega))
        have hown := Own.mv hown hch_ (fun b_ hb_ => by first | (simp; done) | (intro hm_; simp at hm_; subst hm_; contradiction))
        have hts : IsTs w' (b5 :: b3 :: b2 :: b1 :: oblk (H1 40)) ((sh4 a b pa pb) ++ [Tm.mk 3 0 [Tm.mk 1 2 [], Tm.mk 1 1 []]]) (xs ++ [(vI 3), (vI 0), (vS g4 0 2 2)]) := IsTs.mv hch_ (by intro y hy; first | (simp at hy; done) | (simp at hy; subst hy; simp; done) | (simp [hy]; done)) (fun x hx => .inl hx) _ _ hts
        have hib3 := hch_.lt hib3
        have hb3 := Ch.blk0 hch_ hb3 (by first | assumption | (simp; done) | (simp <;> omega))
        have hTg4 : IsT w' (b5 :: b3 :: b2 :: b1 :: oblk (H1 40)) (Tm.mk 3 0 [Tm.mk 1 2 [], Tm.mk 1 1 []]) [(vI 3), (vI 0), (vS g4 0 2 2)] := IsT.mv hch_ (by intro y hy; first | (simp at hy; done) | (simp at hy; subst hy; simp; done) | (simp [hy]; done)) (fun x hx => .inl hx) _ _ hTg4
        have hib5 := hch_.lt hib5
        have hb5 := Ch.blk0 hch_ hb5 (by first | assumption | (simp; done) | (simp <;> omega))
        have hTg6 : IsT w' (b5 :: b3 :: b2 :: b1 :: oblk (H1 40)) (pubOf (Tm.mk 1 1 [])) [(vI 2), (vI 0), (vS (blk (H1 28)) 0 1 1)] := IsT.mv hch_ (by intro y hy; first | (simp at hy; done) | (simp at hy; subst hy; simp; done) | (simp [hy]; done)) (fun x hx => .inl hx) _ _ hTg6
        have hfin_ : A1_8 (updV H1 47 vt) w' := by rw [hA1_8]; exact ⟨hC, hib1, lob1, hb1, hib2, lob2, hb2, hown, hts, hnob2, hnob1, hib3, lob3, hb3, ne_b1_b3, ne_b2_b3, hnob3, hTg4, hib5, lob5, hb5, ne_b1_b5, ne_b2_b5, ne_b3_b5, hnob5, hTg6, hv1_28, lob7, ne_b1_b7, ne_b2_b7, ne_b3_b7, ne_b5_b7, hv1_35, trivial⟩
        exact R2.eff rfl hfin_ rfl (fun h_ => absurd h_ (by decide)) rfl
       ·exact GOb.pure Gr.refl trivial rfl rfl rfl (fun _ _ => d_pick (b := true) rfl rfl)
       ·exact GOb.pure Gr.refl trivial rfl rfl rfl (fun _ _ => d_assign rfl)
      ·intro ac w H1 hW hF
       replace hW : A1_8 H1 w := hW
       rw [hA1_8] at hW
       obtain ⟨hC, hib1, lob1, hb1, hib2, lob2, hb2, hown, hts, hnob2, hnob1, hib3, lob3, hb3, ne_b1_b3, ne_b2_b3, hnob3, hTg4, hib5, lob5, hb5, ne_b1_b5, ne_b2_b5, ne_b3_b5, hnob5, hTg6, hv1_28, lob7, ne_b1_b7, ne_b2_b7, ne_b3_b7, ne_b5_b7, hv1_35, _⟩ := hW
       clear hA1_0 A1_0 hA1_1 A1_1 hA1_2 A1_2 hA1_3 A1_3 hA1_4 A1_4 hA1_5 A1_5 hA1_6 A1_6 hA1_7 A1_7 hA1_8 A1_8
       have hF := hF.sub (L' := [(0, (vB a)), (1, (vB b)), (2, (vB pa)), (3, (vB pb)), (4, (vB dh)), (10, vt), (11, (vp b1)), (12, (vp b2)), (13, lv), (14, (vp b3)), (15, (vp b5)), (16, (vB (a || pa))), (17, (vB (b || pb))), (20, (vB a)), (25, (vB b)), (30, (vB pa)), (36, (vB pb))]) ⟨rfl, rfl, rfl, rfl, rfl, rfl, rfl, rfl, rfl, rfl, rfl, rfl, rfl, rfl, rfl, rfl, rfl, trivial⟩
       refine then_n ?_
       refine wp_ret ?_
       refine body_ret hF (results1 Tryd.results6 (RV.tmp hF rfl)) ?_
       exact ⟨rfl, hC.gr⟩
     cases a <;> cases b
     ·skip
      refine wp_region_lit ?_
      refine wl (d_move rfl) rfl hF (fun ac hF => ?_)
      refine wl (d_move rfl) rfl hF (fun ac hF => ?_)
      refine wlg rfl (d_move rfl) rfl hF (fun ac hF => ?_)
      refine wl (d_pick (b := false) rfl rfl) rfl hF (fun ac hF => ?_)
      refine wl (d_move rfl) rfl hF (fun ac hF => ?_)
      refine wl (d_move rfl) rfl hF (fun ac hF => ?_)
      refine wlg rfl (d_move rfl) rfl hF (fun ac hF => ?_)
      refine wl (d_pick (b := false) rfl rfl) rfl hF (fun ac hF => ?_)
      refine wl (d_assign rfl) rfl hF (fun ac hF => ?_)
      refine wl (d_assign rfl) rfl hF (fun ac hF => ?_)
      refine wl_nil ?_
      refine then_n ?_
      exact ⟨hF.sub ⟨rfl, rfl, rfl, rfl, rfl, rfl, rfl, rfl, rfl, rfl, rfl, rfl, rfl, rfl, rfl, rfl, rfl, trivial⟩, ⟨hC, hib1, lob1, hb1, hib2, lob2, hb2, hown, hts, hnob2, hnob1, hib3, lob3, hb3, ne_b1_b3, ne_b2_b3, hnob3, hTg4, hib5, lob5, hb5, ne_b1_b5, ne_b2_b5, ne_b3_b5, hnob5, trivial⟩⟩
     ·skip
      refine wp_region_lit ?_
      refine wl (d_move rfl) rfl hF (fun ac hF => ?_)
      refine wl (d_move rfl) rfl hF (fun ac hF => ?_)
      refine wlg rfl (d_move rfl) rfl hF (fun ac hF => ?_)
      refine wl (d_pick (b := false) rfl rfl) rfl hF (fun ac hF => ?_)
      refine wl (d_move rfl) rfl hF (fun ac hF => ?_)
      refine wl (d_move rfl) rfl hF (fun ac hF => ?_)
      refine wlgs (c := true) rfl rfl rfl hF (fun ac hF => ?_)
      refine wl (d_pick (b := true) rfl rfl) rfl hF (fun ac hF => ?_)
      refine wl (d_assign rfl) rfl hF (fun ac hF => ?_)
      refine wl (d_assign rfl) rfl hF (fun ac hF => ?_)
      refine wl_nil ?_
      refine then_n ?_
      exact ⟨hF.sub ⟨rfl, rfl, rfl, rfl, rfl, rfl, rfl, rfl, rfl, rfl, rfl, rfl, rfl, rfl, rfl, rfl, rfl, trivial⟩, ⟨hC, hib1, lob1, hb1, hib2, lob2, hb2, hown, hts, hnob2, hnob1, hib3, lob3, hb3, ne_b1_b3, ne_b2_b3, hnob3, hTg4, hib5, lob5, hb5, ne_b1_b5, ne_b2_b5, ne_b3_b5, hnob5, trivial⟩⟩
     ·skip
      refine wp_region_lit ?_
      refine wl (d_move rfl) rfl hF (fun ac hF => ?_)
      refine wl (d_move rfl) rfl hF (fun ac hF => ?_)
      refine wlgs (c := true) rfl rfl rfl hF (fun ac hF => ?_)
      refine wl (d_pick (b := true) rfl rfl) rfl hF (fun ac hF => ?_)
      refine wl (d_move rfl) rfl hF (fun ac hF => ?_)
      refine wl (d_move rfl) rfl hF (fun ac hF => ?_)
      refine wlg rfl (d_move rfl) rfl hF (fun ac hF => ?_)
      refine wl (d_pick (b := false) rfl rfl) rfl hF (fun ac hF => ?_)
      refine wl (d_assign rfl) rfl hF (fun ac hF => ?_)
      refine wl (d_assign rfl) rfl hF (fun ac hF => ?_)
      refine wl_nil ?_
      refine then_n ?_
      exact ⟨hF.sub ⟨rfl, rfl, rfl, rfl, rfl, rfl, rfl, rfl, rfl, rfl, rfl, rfl, rfl, rfl, rfl, rfl, rfl, trivial⟩, ⟨hC, hib1, lob1, hb1, hib2, lob2, hb2, hown, hts, hnob2, hnob1, hib3, lob3, hb3, ne_b1_b3, ne_b2_b3, hnob3, hTg4, hib5, lob5, hb5, ne_b1_b5, ne_b2_b5, ne_b3_b5, hnob5, trivial⟩⟩
     ·skip
      refine wp_region_lit ?_
      refine wl (d_move rfl) rfl hF (fun ac hF => ?_)
      refine wl (d_move rfl) rfl hF (fun ac hF => ?_)
      refine wlgs (c := true) rfl rfl rfl hF (fun ac hF => ?_)
      refine wl (d_pick (b := true) rfl rfl) rfl hF (fun ac hF => ?_)
      refine wl (d_move rfl) rfl hF (fun ac hF => ?_)
      refine wl (d_move rfl) rfl hF (fun ac hF => ?_)
      refine wlgs (c := true) rfl rfl rfl hF (fun ac hF => ?_)
      refine wl (d_pick (b := true) rfl rfl) rfl hF (fun ac hF => ?_)
      refine wl (d_assign rfl) rfl hF (fun ac hF => ?_)
      refine wl (d_assign rfl) rfl hF (fun ac hF => ?_)
      refine wl_nil ?_
      refine then_n ?_
      exact ⟨hF.sub ⟨rfl, rfl, rfl, rfl, rfl, rfl, rfl, rfl, rfl, rfl, rfl, rfl, rfl, rfl, rfl, rfl, rfl, trivial⟩, ⟨hC, hib1, lob1, hb1, hib2, lob2, hb2, hown, hts, hnob2, hnob1, hib3, lob3, hb3, ne_b1_b3, ne_b2_b3, hnob3, hTg4, hib5, lob5, hb5, ne_b1_b5, ne_b2_b5, ne_b3_b5, hnob5, trivial⟩⟩
    refine wp_if hF rfl (fun h => ?_) (fun h => ?_)
    ·have hd := h
     clear h
     refine wp_region_lit ?_
     refine wl (d_move rfl) rfl hF (fun ac hF => ?_)
     refine wl (d_loadC Tryd.underlying26 rfl sz26 rfl ((At.of_blk hb2)) rfl) rfl hF (fun ac hF => ?_)
     have hX_ : ∀ x, x ∈ (b2 :: b1 :: oblk lv) → x < w.heap.size := by
      intro x hx
      simp only [List.mem_cons, List.not_mem_nil, or_false] at hx
      rcases hx with rfl | rfl | hx
      ·exact hib2
      ·exact hib1
      ·exact (Own.lt hown x hx).2
     refine wlR (ok_call c20 rfl (pubL_calls (X := (b2 :: b1 :: oblk lv)) (a := Tm.mk 1 2 []) _ hX_ (isT_atom _ _ _))) rfl hF ?_
     rintro _ w ac ⟨g11, rfl, hTg11, hg_⟩ hF
     have hch_ : Ch [] _ w := Gr.ch hg_
     have hC := hC.trans' hch_ (fun z hz => .inr (absurd hz (by simp)))
     have hib1 := hch_.lt hib1
     have hb1 := Ch.blk0 hch_ hb1 (by first | assumption | (simp; done) | (simp <;> omega))
     have hib2 := hch_.lt hib2
     have hb2 := Ch.blk0 hch_ hb2 (by first | assumption | (simp; done) | (simp <;> omega))
     have hown := Own.mv hown hch_ (fun b_ hb_ => by first | (simp; done) | (intro hm_; simp at hm_; subst hm_; contradiction))
     have hts : IsTs w (b2 :: b1 :: oblk lv) (sh3 a b pa) xs := IsTs.mv hch_ (by intro y hy; first | (simp at hy; done) | (simp at hy; subst hy; simp; done) | (simp [hy]; done)) (fun x hx => .inl hx) _ _ hts
     refine wlR (ok_buildSlice (cells := #[(vI 2), (vI 0), (vS g11 0 1 1)]) Tryd.underlying24 zz26 rfl (by decide) (by decide) (by exact fillT1)) rfl hF ?_
     rintro _ w ac ⟨b12, rfl, hnb_⟩ hF
     have hch_ : Ch [] _ w := hnb_.ch
     have lo_ := hnb_.lo hC.size
     have ne_b1_b12 := hnb_.gt hib1
     have ne_b2_b12 := hnb_.gt hib2
     have hC := hC.trans' hch_ (fun z hz => .inr (absurd hz (by simp)))
     have hib1 := hch_.lt hib1
     have hb1 := Ch.blk0 hch_ hb1 (by first | assumption | (simp; done) | (simp <;> omega))
     have hib2 := hch_.lt hib2
     have hb2 := Ch.blk0 hch_ hb2 (by first | assumption | (simp; done) | (simp <;> omega))
     have hown := Own.mv hown hch_ (fun b_ hb_ => by first | (simp; done) | (intro hm_; simp at hm_; subst hm_; contradiction))
     have hts : IsTs w (b2 :: b1 :: oblk lv) (sh3 a b pa) xs := IsTs.mv hch_ (by intro y hy; first | (simp at hy; done) | (simp at hy; subst hy; simp; done) | (simp [hy]; done)) (fun x hx => .inl hx) _ _ hts
     have hTg11 : IsT w (b2 :: b1 :: oblk lv) (pubOf (Tm.mk 1 2 [])) [(vI 2), (vI 0), (vS g11 0 1 1)] := IsT.mv hch_ (by intro y hy; first | (simp at hy; done) | (simp at hy; subst hy; simp; done) | (simp [hy]; done)) (fun x hx => .inl hx) _ _ hTg11
     have hib12 : b12 < w.heap.size := hnb_.lt
     have lob12 : w0.heap.size ≤ b12 := lo_
     have hb12 : At w b12 0 [(vI 2), (vI 0), (vS g11 0 1 1)] := hnb_.at
     have ne_b1_b12 : b1 < b12 := ne_b1_b12
     have ne_b2_b12 : b2 < b12 := ne_b2_b12
     have hown0_ := hown
     refine wlR (ok_appendm (m := 3) (k := 1) (b := b12) (o := 0) (news := [(vI 2), (vI 0), (vS g11 0 1 1)]) Tryd.underlying24 ii26 rfl (by decide) rfl rfl hown rfl hb12 (IsT.cells1 hTg11) (by omega) (by unfold maxLen; omega) hC.size) rfl hF ?_
     rintro lv13 w ac ⟨hown, hch0_, hob⟩ hF
     have hch_ : Ch (oblk lv) _ w := hch0_
     have hxx_ : ∀ x, x ∈ (b2 :: b1 :: oblk lv13) → x ∈ (b2 :: b1 :: oblk lv) ∨ _ ≤ x := fun x hx => by
      simp only [List.mem_cons] at hx ⊢
      rcases hx with h_ | h_ | hx
      ·exact .inl (by simp [h_])
      ·exact .inl (by simp [h_])
      ·rcases hob with hob | hob
       ·rw [hob] at hx; exact .inl (by simp [hx])
       ·rw [hob] at hx; simp at hx; exact .inr (Nat.le_of_eq hx.symm)
     have hnxb2_ := nin_ob hob hnob2 hib2
     have hnxb1_ := nin_ob hob hnob1 hib1
     have hC := hC.trans' hch_ (fun z hz => .inr ((Own.lt hown0_ z hz).1))
     have hib1 := hch_.lt hib1
     have hb1 := Ch.blk0 hch_ hb1 (by first | assumption | (simp; done) | (simp <;> omega))
     have hib2 := hch_.lt hib2
     have hb2 := Ch.blk0 hch_ hb2 (by first | assumption | (simp; done) | (simp <;> omega))
     have hts : IsTs w (b2 :: b1 :: oblk lv13) ((sh3 a b pa) ++ [pubOf (Tm.mk 1 2 [])]) (xs ++ [(vI 2), (vI 0), (vS g11 0 1 1)]) := (IsTs.mv hch_ (fun y hy => by simp [hy]) hxx_ _ _ hts).app (IsTs.one (IsT.mv hch_ (fun y hy => by simp [hy]) hxx_ _ _ hTg11))
     have hTg11 : IsT w (b2 :: b1 :: oblk lv13) (pubOf (Tm.mk 1 2 [])) [(vI 2), (vI 0), (vS g11 0 1 1)] := IsT.mv hch_ (fun y hy => by simp [hy]) hxx_ _ _ hTg11
     have hnob2 : b2 ∉ oblk lv13 := hnxb2_
     have hnob1 : b1 ∉ oblk lv13 := hnxb1_
     refine wl (d_assign rfl) rfl hF (fun ac hF => ?_)
     refine wl_nil ?_
     refine then_n ?_
     exact ⟨_, _, hF.sub ⟨rfl, rfl, rfl, rfl, rfl, rfl, rfl, rfl, rfl, rfl, rfl, rfl, rfl, trivial⟩, (by unfold sh4; rw [hd, cond_true, List.length_append]; exact Nat.add_le_add_right hln 1), ⟨hC, hib1, lob1, hb1, hib2, lob2, hb2, (by unfold sh4; rw [hd, cond_true, List.length_append]; exact hown), (by unfold sh4; rw [hd]; exact hts), hnob2, hnob1, trivial⟩⟩
    ·have hd := h
     clear h
     refine wp_skip ?_
     refine then_n ?_
     exact ⟨_, _, hF.sub ⟨rfl, rfl, rfl, rfl, rfl, rfl, rfl, rfl, rfl, rfl, rfl, rfl, rfl, trivial⟩, (by unfold sh4; rw [hd, cond_false, List.append_nil]; exact Nat.le_trans hln (by decide)), ⟨hC, hib1, lob1, hb1, hib2, lob2, hb2, (by unfold sh4; rw [hd, cond_false, List.append_nil]; exact hown), (by unfold sh4; rw [hd, cond_false, List.append_nil]; exact hts), hnob2, hnob1, trivial⟩⟩
   refine wp_if hF rfl (fun h => ?_) (fun h => ?_)
   ·have hd := h
    clear h
    refine wp_region_lit ?_
    refine wl (d_move rfl) rfl hF (fun ac hF => ?_)
    refine wl (d_loadC Tryd.underlying26 rfl sz26 rfl ((At.of_blk hb1)) rfl) rfl hF (fun ac hF => ?_)
    have hX_ : ∀ x, x ∈ (b2 :: b1 :: oblk lv) → x < w.heap.size := by
     intro x hx
     simp only [List.mem_cons, List.not_mem_nil, or_false] at hx
     rcases hx with rfl | rfl | hx
     ·exact hib2
     ·exact hib1
     ·exact (Own.lt hown x hx).2
    refine wlR (ok_call c20 rfl (pubL_calls (X := (b2 :: b1 :: oblk lv)) (a := Tm.mk 1 1 []) _ hX_ (isT_atom _ _ _))) rfl hF ?_
    rintro _ w ac ⟨g14, rfl, hTg14, hg_⟩ hF
    have hch_ : Ch [] _ w := Gr.ch hg_
    have hC := hC.trans' hch_ (fun z hz => .inr (absurd hz (by simp)))
    have hib1 := hch_.lt hib1
    have hb1 := Ch.blk0 hch_ hb1 (by first | assumption | (simp; done) | (simp <;> omega))
    have hib2 := hch_.lt hib2
    have hb2 := Ch.blk0 hch_ hb2 (by first | assumption | (simp; done) | (simp <;> omega))
    have hown := Own.mv hown hch_ (fun b_ hb_ => by first | (simp; done) | (intro hm_; simp at hm_; subst hm_; contradiction))
    have hts : IsTs w (b2 :: b1 :: oblk lv) (sh2 a b) xs := IsTs.mv hch_ (by intro y hy; first | (simp at hy; done) | (simp at hy; subst hy; simp; done) | (simp [hy]; done)) (fun x hx => .inl hx) _ _ hts
    refine wlR (ok_buildSlice (cells := #[(vI 2), (vI 0), (vS g14 0 1 1)]) Tryd.underlying24 zz26 rfl (by decide) (by decide) (by exact fillT1)) rfl hF ?_
    rintro _ w ac ⟨b15, rfl, hnb_⟩ hF
    have hch_ : Ch [] _ w := hnb_.ch
    have lo_ := hnb_.lo hC.size
    have ne_b1_b15 := hnb_.gt hib1
    have ne_b2_b15 := hnb_.gt hib2
    have hC := hC.trans' hch_ (fun z hz => .inr (absurd hz (by simp)))
    have hib1 := hch_.lt hib1
    have hb1 := Ch.blk0 hch_ hb1 (by first | assumption | (simp; done) | (simp <;> omega))
    have hib2 := hch_.lt hib2
    have hb2 := Ch.blk0 hch_ hb2 (by first | assumption | (simp; done) | (simp <;> omega))
    have hown := Own.mv hown hch_ (fun b_ hb_ => by first | (simp; done) | (intro hm_; simp at hm_; subst hm_; contradiction))
    have hts : IsTs w (b2 :: b1 :: oblk lv) (sh2 a b) xs := IsTs.mv hch_ (by intro y hy; first | (simp at hy; done) | (simp at hy; subst hy; simp; done) | (simp [hy]; done)) (fun x hx => .inl hx) _ _ hts
    have hTg14 : IsT w (b2 :: b1 :: oblk lv) (pubOf (Tm.mk 1 1 [])) [(vI 2), (vI 0), (vS g14 0 1 1)] := IsT.mv hch_ (by intro y hy; first | (simp at hy; done) | (simp at hy; subst hy; simp; done) | (simp [hy]; done)) (fun x hx => .inl hx) _ _ hTg14
    have hib15 : b15 < w.heap.size := hnb_.lt
    have lob15 : w0.heap.size ≤ b15 := lo_
    have hb15 : At w b15 0 [(vI 2), (vI 0), (vS g14 0 1 1)] := hnb_.at
    have ne_b1_b15 : b1 < b15 := ne_b1_b15
    have ne_b2_b15 : b2 < b15 := ne_b2_b15
    have hown0_ := hown
    refine wlR (ok_appendm (m := 3) (k := 1) (b := b15) (o := 0) (news := [(vI 2), (vI 0), (vS g14 0 1 1)]) Tryd.underlying24 ii26 rfl (by decide) rfl rfl hown rfl hb15 (IsT.cells1 hTg14) (by omega) (by unfold maxLen; omega) hC.size) rfl hF ?_
    rintro lv16 w ac ⟨hown, hch0_, hob⟩ hF
    have hch_ : Ch (oblk lv) _ w := hch0_
    have hxx_ : ∀ x, x ∈ (b2 :: b1 :: oblk lv16) → x ∈ (b2 :: b1 :: oblk lv) ∨ _ ≤ x := fun x hx => by
     simp only [List.mem_cons] at hx ⊢
     rcases hx with h_ | h_ | hx
     ·exact .inl (by simp [h_])
     ·exact .inl (by simp [h_])
     ·rcases hob with hob | hob
      ·rw [hob] at hx; exact .inl (by simp [hx])
      ·rw [hob] at hx; simp at hx; exact .inr (Nat.le_of_eq hx.symm)
    have hnxb2_ := nin_ob hob hnob2 hib2
    have hnxb1_ := nin_ob hob hnob1 hib1
    have hC := hC.trans' hch_ (fun z hz => .inr ((Own.lt hown0_ z hz).1))
    have hib1 := hch_.lt hib1
    have hb1 := Ch.blk0 hch_ hb1 (by first | assumption | (simp; done) | (simp <;> omega))
    have hib2 := hch_.lt hib2
    have hb2 := Ch.blk0 hch_ hb2 (by first | assumption | (simp; done) | (simp <;> omega))
    have hts : IsTs w (b2 :: b1 :: oblk lv16) ((sh2 a b) ++ [pubOf (Tm.mk 1 1 [])]) (xs ++ [(vI 2), (vI 0), (vS g14 0 1 1)]) := (IsTs.mv hch_ (fun y hy => by simp [hy]) hxx_ _ _ hts).app (IsTs.one (IsT.mv hch_ (fun y hy => by simp [hy]) hxx_ _ _ hTg14))
    have hTg14 : IsT w (b2 :: b1 :: oblk lv16) (pubOf (Tm.mk 1 1 [])) [(vI 2), (vI 0), (vS g14 0 1 1)] := IsT.mv hch_ (fun y hy => by simp [hy]) hxx_ _ _ hTg14
    have hnob2 : b2 ∉ oblk lv16 := hnxb2_
    have hnob1 : b1 ∉ oblk lv16 := hnxb1_
    refine wl (d_assign rfl) rfl hF (fun ac hF => ?_)
    refine wl_nil ?_
    refine then_n ?_
    exact ⟨_, _, hF.sub ⟨rfl, rfl, rfl, rfl, rfl, rfl, rfl, rfl, rfl, rfl, rfl, rfl, trivial⟩, (by unfold sh3; rw [hd, cond_true, List.length_append]; exact Nat.add_le_add_right hln 1), ⟨hC, hib1, lob1, hb1, hib2, lob2, hb2, (by unfold sh3; rw [hd, cond_true, List.length_append]; exact hown), (by unfold sh3; rw [hd]; exact hts), hnob2, hnob1, trivial⟩⟩
   ·have hd := h
    clear h
    refine wp_skip ?_
    refine then_n ?_
    exact ⟨_, _, hF.sub ⟨rfl, rfl, rfl, rfl, rfl, rfl, rfl, rfl, rfl, rfl, rfl, rfl, trivial⟩, (by unfold sh3; rw [hd, cond_false, List.append_nil]; exact Nat.le_trans hln (by decide)), ⟨hC, hib1, lob1, hb1, hib2, lob2, hb2, (by unfold sh3; rw [hd, cond_false, List.append_nil]; exact hown), (by unfold sh3; rw [hd, cond_false, List.append_nil]; exact hts), hnob2, hnob1, trivial⟩⟩
  refine wp_if hF rfl (fun h => ?_) (fun h => ?_)
  ·have hd := h
   clear h
   refine wp_region_lit ?_
   refine wl (d_move rfl) rfl hF (fun ac hF => ?_)
   refine wl (d_loadC Tryd.underlying26 rfl sz26 rfl ((At.of_blk hb2)) rfl) rfl hF (fun ac hF => ?_)
   refine wlR (ok_buildSlice (cells := #[(vI 1), (vI 2), vN]) Tryd.underlying24 zz26 rfl (by decide) (by decide) (by exact fillT1)) rfl hF ?_
   rintro _ w ac ⟨b17, rfl, hnb_⟩ hF
   have hch_ : Ch [] _ w := hnb_.ch
   have lo_ := hnb_.lo hC.size
   have ne_b1_b17 := hnb_.gt hib1
   have ne_b2_b17 := hnb_.gt hib2
   have hC := hC.trans' hch_ (fun z hz => .inr (absurd hz (by simp)))
   have hib1 := hch_.lt hib1
   have hb1 := Ch.blk0 hch_ hb1 (by first | assumption | (simp; done) | (simp <;> omega))
   have hib2 := hch_.lt hib2
   have hb2 := Ch.blk0 hch_ hb2 (by first | assumption | (simp; done) | (simp <;> omega))
   have hown := Own.mv hown hch_ (fun b_ hb_ => by first | (simp; done) | (intro hm_; simp at hm_; subst hm_; contradiction))
   have hts : IsTs w (b2 :: b1 :: oblk lv) (sh1 a) xs := IsTs.mv hch_ (by intro y hy; first | (simp at hy; done) | (simp at hy; subst hy; simp; done) | (simp [hy]; done)) (fun x hx => .inl hx) _ _ hts
   have hib17 : b17 < w.heap.size := hnb_.lt
   have lob17 : w0.heap.size ≤ b17 := lo_
   have hb17 : At w b17 0 [(vI 1), (vI 2), vN] := hnb_.at
   have ne_b1_b17 : b1 < b17 := ne_b1_b17
   have ne_b2_b17 : b2 < b17 := ne_b2_b17
   have hown0_ := hown
   refine wlR (ok_appendm (m := 3) (k := 1) (b := b17) (o := 0) (news := [(vI 1), (vI 2), vN]) Tryd.underlying24 ii26 rfl (by decide) rfl rfl hown rfl hb17 (IsT.cells1 (isT_atom w [] _)) (by omega) (by unfold maxLen; omega) hC.size) rfl hF ?_
   rintro lv18 w ac ⟨hown, hch0_, hob⟩ hF
   have hch_ : Ch (oblk lv) _ w := hch0_
   have hxx_ : ∀ x, x ∈ (b2 :: b1 :: oblk lv18) → x ∈ (b2 :: b1 :: oblk lv) ∨ _ ≤ x := fun x hx => by
    simp only [List.mem_cons] at hx ⊢
    rcases hx with h_ | h_ | hx
    ·exact .inl (by simp [h_])
    ·exact .inl (by simp [h_])
    ·rcases hob with hob | hob
     ·rw [hob] at hx; exact .inl (by simp [hx])
     ·rw [hob] at hx; simp at hx; exact .inr (Nat.le_of_eq hx.symm)
   have hnxb2_ := nin_ob hob hnob2 hib2
   have hnxb1_ := nin_ob hob hnob1 hib1
   have hC := hC.trans' hch_ (fun z hz => .inr ((Own.lt hown0_ z hz).1))
   have hib1 := hch_.lt hib1
   have hb1 := Ch.blk0 hch_ hb1 (by first | assumption | (simp; done) | (simp <;> omega))
   have hib2 := hch_.lt hib2
   have hb2 := Ch.blk0 hch_ hb2 (by first | assumption | (simp; done) | (simp <;> omega))
   have hts : IsTs w (b2 :: b1 :: oblk lv18) ((sh1 a) ++ [Tm.mk 1 2 []]) (xs ++ [(vI 1), (vI 2), vN]) := (IsTs.mv hch_ (fun y hy => by simp [hy]) hxx_ _ _ hts).app (IsTs.one (isT_atom _ _ _))
   have hnob2 : b2 ∉ oblk lv18 := hnxb2_
   have hnob1 : b1 ∉ oblk lv18 := hnxb1_
   refine wl (d_assign rfl) rfl hF (fun ac hF => ?_)
   refine wl_nil ?_
   refine then_n ?_
   exact ⟨_, _, hF.sub ⟨rfl, rfl, rfl, rfl, rfl, rfl, rfl, rfl, rfl, rfl, rfl, trivial⟩, (by unfold sh2; rw [hd, cond_true, List.length_append]; exact Nat.add_le_add_right hln 1), ⟨hC, hib1, lob1, hb1, hib2, lob2, hb2, (by unfold sh2; rw [hd, cond_true, List.length_append]; exact hown), (by unfold sh2; rw [hd]; exact hts), hnob2, hnob1, trivial⟩⟩
  ·have hd := h
   clear h
   refine wp_skip ?_
   refine then_n ?_
   exact ⟨_, _, hF.sub ⟨rfl, rfl, rfl, rfl, rfl, rfl, rfl, rfl, rfl, rfl, rfl, trivial⟩, (by unfold sh2; rw [hd, cond_false, List.append_nil]; exact Nat.le_trans hln (by decide)), ⟨hC, hib1, lob1, hb1, hib2, lob2, hb2, (by unfold sh2; rw [hd, cond_false, List.append_nil]; exact hown), (by unfold sh2; rw [hd, cond_false, List.append_nil]; exact hts), hnob2, hnob1, trivial⟩⟩
 refine wp_if hF rfl (fun h => ?_) (fun h => ?_)
 ·have hd := h
  clear h
  refine wp_region_lit ?_
  refine wl (d_move rfl) rfl hF (fun ac hF => ?_)
  refine wl (d_loadC Tryd.underlying26 rfl sz26 rfl ((At.of_blk hb1)) rfl) rfl hF (fun ac hF => ?_)
  refine wlR (ok_buildSlice (cells := #[(vI 1), (vI 1), vN]) Tryd.underlying24 zz26 rfl (by decide) (by decide) (by exact fillT1)) rfl hF ?_
  rintro _ w ac ⟨b19, rfl, hnb_⟩ hF
  have hch_ : Ch [] _ w := hnb_.ch
  have lo_ := hnb_.lo hC.size
  have ne_b1_b19 := hnb_.gt hib1
  have ne_b2_b19 := hnb_.gt hib2
  have hC := hC.trans' hch_ (fun z hz => .inr (absurd hz (by simp)))
  have hib1 := hch_.lt hib1
  have hb1 := Ch.blk0 hch_ hb1 (by first | assumption | (simp; done) | (simp <;> omega))
  have hib2 := hch_.lt hib2
  have hb2 := Ch.blk0 hch_ hb2 (by first | assumption | (simp; done) | (simp <;> omega))
  have hown := Own.mv hown hch_ (fun b_ hb_ => by first | (simp; done) | (intro hm_; simp at hm_; subst hm_; contradiction))
  have hts : IsTs w (b2 :: b1 :: oblk vN) ([] : List Tm) ([] : List Value) := IsTs.mv hch_ (by intro y hy; first | (simp at hy; done) | (simp at hy; subst hy; simp; done) | (simp [hy]; done)) (fun x hx => .inl hx) _ _ hts
  have hib19 : b19 < w.heap.size := hnb_.lt
  have lob19 : w0.heap.size ≤ b19 := lo_
  have hb19 : At w b19 0 [(vI 1), (vI 1), vN] := hnb_.at
  have ne_b1_b19 : b1 < b19 := ne_b1_b19
  have ne_b2_b19 : b2 < b19 := ne_b2_b19
  have hown0_ := hown
  refine wlR (ok_appendm (m := 3) (k := 1) (b := b19) (o := 0) (news := [(vI 1), (vI 1), vN]) Tryd.underlying24 ii26 rfl (by decide) rfl rfl hown rfl hb19 (IsT.cells1 (isT_atom w [] _)) (by omega) (by unfold maxLen; omega) hC.size) rfl hF ?_
  rintro lv20 w ac ⟨hown, hch0_, hob⟩ hF
  have hch_ : Ch (oblk vN) _ w := hch0_
  have hxx_ : ∀ x, x ∈ (b2 :: b1 :: oblk lv20) → x ∈ (b2 :: b1 :: oblk vN) ∨ _ ≤ x := fun x hx => by
   simp only [List.mem_cons] at hx ⊢
   rcases hx with h_ | h_ | hx
   ·exact .inl (by simp [h_])
   ·exact .inl (by simp [h_])
   ·rcases hob with hob | hob
    ·rw [hob] at hx; exact .inl (by simp [hx])
    ·rw [hob] at hx; simp at hx; exact .inr (Nat.le_of_eq hx.symm)
  have hnxb2_ := nin_ob hob hnob2 hib2
  have hnxb1_ := nin_ob hob hnob1 hib1
  have hC := hC.trans' hch_ (fun z hz => .inr ((Own.lt hown0_ z hz).1))
  have hib1 := hch_.lt hib1
  have hb1 := Ch.blk0 hch_ hb1 (by first | assumption | (simp; done) | (simp <;> omega))
  have hib2 := hch_.lt hib2
  have hb2 := Ch.blk0 hch_ hb2 (by first | assumption | (simp; done) | (simp <;> omega))
  have hts : IsTs w (b2 :: b1 :: oblk lv20) (([] : List Tm) ++ [Tm.mk 1 1 []]) (([] : List Value) ++ [(vI 1), (vI 1), vN]) := (IsTs.mv hch_ (fun y hy => by simp [hy]) hxx_ _ _ hts).app (IsTs.one (isT_atom _ _ _))
  have hnob2 : b2 ∉ oblk lv20 := hnxb2_
  have hnob1 : b1 ∉ oblk lv20 := hnxb1_
  refine wl (d_assign rfl) rfl hF (fun ac hF => ?_)
  refine wl_nil ?_
  refine then_n ?_
  exact ⟨_, _, hF.sub ⟨rfl, rfl, rfl, rfl, rfl, rfl, rfl, rfl, rfl, rfl, trivial⟩, (by unfold sh1; rw [hd]; simp), ⟨hC, hib1, lob1, hb1, hib2, lob2, hb2, (by unfold sh1; rw [hd, cond_true, List.length_append]; exact hown), (by unfold sh1; rw [hd]; exact hts), hnob2, hnob1, trivial⟩⟩
 ·have hd := h
  clear h
  refine wp_skip ?_
  refine then_n ?_
  exact ⟨_, _, hF.sub ⟨rfl, rfl, rfl, rfl, rfl, rfl, rfl, rfl, rfl, rfl, trivial⟩, (by unfold sh1; rw [hd]; simp), ⟨hC, hib1, lob1, hb1, hib2, lob2, hb2, (by unfold sh1; rw [hd, cond_false, List.append_nil]; exact hown), (by unfold sh1; rw [hd, cond_false, List.append_nil]; exact hts), hnob2, hnob1, trivial⟩⟩
end Go.Mi.Term
