/- Walks: what the laws' own functions return. -/
import Derived.Test.YtoefhjabaanokaaDoorV2
namespace Go.Mi.Term
open Go.Mi Go.Proofs Go.RowKit
set_option linter.unusedVariables false
theorem kems_1 (draw secret ct kem : Bool) : knows ⟨false, kem⟩ 60 60 ((([pubOf (Tm.mk 1 1 [])] ++ (bif draw then [Tm.mk 1 2 []] else [])) ++ (bif secret then [Tm.mk 1 1 []] else [])) ++ (bif ct then [Tm.mk 5 0 [Tm.mk 1 1 [], Tm.mk 1 2 []]] else [])) (Tm.mk 4 0 [Tm.mk 1 1 [], Tm.mk 1 2 []]) = some (draw || secret && ct || kem && ct) := by
  cases draw <;> cases secret <;> cases ct <;> cases kem <;> decide +kernel
theorem kems_2 (draw secret ct kem : Bool) : knows ⟨false, kem⟩ 60 60 ((([pubOf (Tm.mk 1 1 [])] ++ (bif draw then [Tm.mk 1 2 []] else [])) ++ (bif secret then [Tm.mk 1 1 []] else [])) ++ (bif ct then [Tm.mk 5 0 [Tm.mk 1 1 [], Tm.mk 1 2 []]] else [])) (Tm.mk 5 0 [Tm.mk 1 1 [], Tm.mk 1 2 []]) = some (draw || ct) := by
  cases draw <;> cases secret <;> cases ct <;> cases kem <;> decide +kernel
theorem kems_3 (draw secret ct kem : Bool) : knows ⟨false, kem⟩ 60 60 ((([pubOf (Tm.mk 1 1 [])] ++ (bif draw then [Tm.mk 1 2 []] else [])) ++ (bif secret then [Tm.mk 1 1 []] else [])) ++ (bif ct then [Tm.mk 5 0 [Tm.mk 1 1 [], Tm.mk 1 2 []]] else [])) (Tm.mk 1 2 []) = some draw := by
  cases draw <;> cases secret <;> cases ct <;> cases kem <;> decide +kernel

def kmv45 (draw secret ct kem : Bool) : Value := gsel (Value.bool draw) false ((Value.bool secret))
def kmv46 (draw secret ct kem : Bool) : Value := gsel (Value.bool draw) false ((kmv45 draw secret ct kem))
def kmv47 (draw secret ct kem : Bool) : Value := gsel (kmv46 draw secret ct kem) true ((Value.bool ct))
def kmv48 (draw secret ct kem : Bool) : Value := gsel (Value.bool draw) false (psel (kmv46 draw secret ct kem) (kmv47 draw secret ct kem) (Value.bool false))
def kmv49 (draw secret ct kem : Bool) : Value := psel (Value.bool draw) (Value.bool true) (kmv48 draw secret ct kem)
def kmv51 (draw secret ct kem : Bool) : Value := gsel (kmv49 draw secret ct kem) false ((Value.bool kem))
def kmv52 (draw secret ct kem : Bool) : Value := gsel (kmv49 draw secret ct kem) false ((kmv51 draw secret ct kem))
def kmv53 (draw secret ct kem : Bool) : Value := gsel (kmv52 draw secret ct kem) true ((Value.bool ct))
def kmv54 (draw secret ct kem : Bool) : Value := gsel (kmv49 draw secret ct kem) false (psel (kmv52 draw secret ct kem) (kmv53 draw secret ct kem) (Value.bool false))
def kmv55 (draw secret ct kem : Bool) : Value := psel (kmv49 draw secret ct kem) (Value.bool true) (kmv54 draw secret ct kem)
def kmv66 (draw secret ct kem : Bool) : Value := gsel (Value.bool draw) false ((Value.bool ct))
def kmv67 (draw secret ct kem : Bool) : Value := psel (Value.bool draw) (Value.bool true) (kmv66 draw secret ct kem)
set_option maxRecDepth 100000 in
set_option maxHeartbeats 4000000 in
theorem kems_walk (draw secret ct kem : Bool) (w0 : World) (hw0 : T0 w0) : Calls Tryd.prog 4 (List.toArray [.bool draw, .bool secret, .bool ct, .bool kem]) w0 (Ret fun v w' => v = .bool true ∧ Gr w0 w') := by
  refine calls_of Tryd.func4 rfl Tryd.ntmps4 rfl fun ac hF => ?_
  have hC : Ch [] w0 w0 := Ch.refl _ _
  have hF := hF.sub (L' := [(0, (Value.bool draw)), (1, (Value.bool secret)), (2, (Value.bool ct)), (3, (Value.bool kem))]) ⟨rfl, rfl, rfl, rfl, trivial⟩
  refine wp_seq ?_
  refine wp_region_lit ?_
  refine wl (d_assign rfl) rfl hF (fun ac hF => ?_)
  refine wl_nil ?_
  have hF := hF.sub (L' := [(0, (Value.bool draw)), (1, (Value.bool secret)), (2, (Value.bool ct)), (3, (Value.bool kem)), (8, (Value.bool false))]) ⟨rfl, rfl, rfl, rfl, rfl, trivial⟩
  refine then_n ?_
  refine wp_seq ?_
  refine wp_region_lit ?_
  refine wlR (ok_call c16 rfl (atom_calls _)) rfl hF ?_
  rintro _ w ac ⟨rfl, hg_⟩ hF
  have hch_ : Ch [] _ w := Gr.ch hg_
  have hC := hC.trans' hch_ (fun z hz => .inr (absurd hz (by simp)))
  refine wlR (ok_call c16 rfl (atom_calls _)) rfl hF ?_
  rintro _ w ac ⟨rfl, hg_⟩ hF
  have hch_ : Ch [] _ w := Gr.ch hg_
  have hC := hC.trans' hch_ (fun z hz => .inr (absurd hz (by simp)))
  refine wlR (ok_alloc z26) rfl hF ?_
  rintro _ w ac ⟨b1, rfl, hnb_⟩ hF
  have hch_ : Ch [] _ w := hnb_.ch
  have lo_ := hnb_.lo hC.size
  have hC := hC.trans' hch_ (fun z hz => .inr (absurd hz (by simp)))
  have hib1 : b1 < w.heap.size := hnb_.lt
  have lob1 : w0.heap.size ≤ b1 := lo_
  have hb1 : w.heap[b1]? = some (.cells #[(Value.int .i64 0), (Value.int .i64 0), (Value.slice none 0 0)] 26 (0, 0)) := hnb_.blk
  refine wlR (ok_alloc z26) rfl hF ?_
  rintro _ w ac ⟨b2, rfl, hnb_⟩ hF
  have hch_ : Ch [] _ w := hnb_.ch
  have lo_ := hnb_.lo hC.size
  have ne_b1_b2 := hnb_.gt hib1
  have hC := hC.trans' hch_ (fun z hz => .inr (absurd hz (by simp)))
  have hib1 := Nat.lt_of_lt_of_le hib1 (hch_).size
  have hb1 := Ch.blk0 hch_ hb1 (by first | assumption | (simp; done) | (simp <;> omega))
  have hib2 : b2 < w.heap.size := hnb_.lt
  have lob2 : w0.heap.size ≤ b2 := lo_
  have hb2 : w.heap[b2]? = some (.cells #[(Value.int .i64 0), (Value.int .i64 0), (Value.slice none 0 0)] 26 (0, 0)) := hnb_.blk
  have ne_b1_b2 : b1 < b2 := ne_b1_b2
  refine wl0R (ok_storeA (c' := #[(Value.int .i64 1), (Value.int .i64 1), (Value.slice none 0 0)]) sz26 rfl rfl rfl (fun v hv => by simp at hv; rcases hv with rfl | rfl | rfl <;> rfl) hb1 rfl) hF ?_
  rintro w ac hu_ hF
  have hch_ : Ch [b1] _ w := hu_.ch
  have hC := hC.trans' hch_ (fun z hz => .inr ((by simp at hz; subst hz; assumption)))
  have hib1 := Nat.lt_of_lt_of_le hib1 (hch_).size
  have hib2 := Nat.lt_of_lt_of_le hib2 (hch_).size
  have hb2 := Ch.blk0 hch_ hb2 (by first | assumption | (simp; done) | (simp <;> omega))
  have hb1 : w.heap[b1]? = some (.cells #[(Value.int .i64 1), (Value.int .i64 1), (Value.slice none 0 0)] 26 (0, 0)) := hu_.blk
  refine wl0R (ok_storeA (c' := #[(Value.int .i64 1), (Value.int .i64 2), (Value.slice none 0 0)]) sz26 rfl rfl rfl (fun v hv => by simp at hv; rcases hv with rfl | rfl | rfl <;> rfl) hb2 rfl) hF ?_
  rintro w ac hu_ hF
  have hch_ : Ch [b2] _ w := hu_.ch
  have hC := hC.trans' hch_ (fun z hz => .inr ((by simp at hz; subst hz; assumption)))
  have hib1 := Nat.lt_of_lt_of_le hib1 (hch_).size
  have hb1 := Ch.blk0 hch_ hb1 (by first | assumption | (simp; done) | (simp <;> omega))
  have hib2 := Nat.lt_of_lt_of_le hib2 (hch_).size
  have hb2 : w.heap[b2]? = some (.cells #[(Value.int .i64 1), (Value.int .i64 2), (Value.slice none 0 0)] 26 (0, 0)) := hu_.blk
  refine wl_nil ?_
  have hF := hF.sub (L' := [(0, (Value.bool draw)), (1, (Value.bool secret)), (2, (Value.bool ct)), (3, (Value.bool kem)), (8, (Value.bool false)), (9, (Value.pointer (some ⟨b1, 0, none⟩))), (10, (Value.pointer (some ⟨b2, 0, none⟩)))]) ⟨rfl, rfl, rfl, rfl, rfl, rfl, rfl, trivial⟩
  refine then_n ?_
  refine wp_seq ?_
  refine wp_region_lit ?_
  refine wl (d_loadC Tryd.underlying26 rfl sz26 rfl ((At.of_blk hb1)) rfl) rfl hF (fun ac hF => ?_)
  have hX_ : ∀ x, x ∈ (b2 :: b1 :: []) → x < w.heap.size := by
    intro x hx
    simp only [List.mem_cons, List.not_mem_nil, or_false] at hx
    rcases hx with rfl | rfl
    · exact hib2
    · exact hib1
  refine wlR (ok_call c20 rfl (pubL_calls (X := (b2 :: b1 :: [])) (a := Tm.mk 1 1 []) _ hX_ (isT_atom _ _ _))) rfl hF ?_
  rintro _ w ac ⟨g3, rfl, hTg3, hg_⟩ hF
  have hch_ : Ch [] _ w := Gr.ch hg_
  have hC := hC.trans' hch_ (fun z hz => .inr (absurd hz (by simp)))
  have hib1 := Nat.lt_of_lt_of_le hib1 (hch_).size
  have hb1 := Ch.blk0 hch_ hb1 (by first | assumption | (simp; done) | (simp <;> omega))
  have hib2 := Nat.lt_of_lt_of_le hib2 (hch_).size
  have hb2 := Ch.blk0 hch_ hb2 (by first | assumption | (simp; done) | (simp <;> omega))
  refine wlR (ok_buildSlice (cells := #[(Value.int .i64 2), (Value.int .i64 0), (Value.slice (some ⟨g3, 0, none⟩) 1 1)]) Tryd.underlying24 zz26 rfl (by decide) (by decide) (by exact fillT1)) rfl hF ?_
  rintro _ w ac ⟨b4, rfl, hnb_⟩ hF
  have hch_ : Ch [] _ w := hnb_.ch
  have lo_ := hnb_.lo hC.size
  have ne_b1_b4 := hnb_.gt hib1
  have ne_b2_b4 := hnb_.gt hib2
  have hTg3_ := hTg3
  have hC := hC.trans' hch_ (fun z hz => .inr (absurd hz (by simp)))
  have hib1 := Nat.lt_of_lt_of_le hib1 (hch_).size
  have hb1 := Ch.blk0 hch_ hb1 (by first | assumption | (simp; done) | (simp <;> omega))
  have hib2 := Nat.lt_of_lt_of_le hib2 (hch_).size
  have hb2 := Ch.blk0 hch_ hb2 (by first | assumption | (simp; done) | (simp <;> omega))
  have hib4 : b4 < w.heap.size := hnb_.lt
  have lob4 : w0.heap.size ≤ b4 := lo_
  have hb4 : w.heap[b4]? = some (.cells #[(Value.int .i64 2), (Value.int .i64 0), (Value.slice (some ⟨g3, 0, none⟩) 1 1)] 26 (0, 0)) := hnb_.blk
  have ne_b1_b4 : b1 < b4 := ne_b1_b4
  have ne_b2_b4 : b2 < b4 := ne_b2_b4
  have hTg3 : IsT w (b4 :: b2 :: b1 :: []) (pubOf (Tm.mk 1 1 [])) [(Value.int .i64 2), (Value.int .i64 0), (Value.slice (some ⟨g3, 0, none⟩) 1 1)] := IsT.mv hnb_.ch (by simp) (fun x hx => by rcases List.mem_cons.1 hx with rfl | hx; exact .inr (Nat.le_of_eq hnb_.num.symm); exact .inl hx) _ _ hTg3_
  refine wl (d_assign rfl) rfl hF (fun ac hF => ?_)
  refine wl_nil ?_
  have hF := hF.sub (L' := [(0, (Value.bool draw)), (1, (Value.bool secret)), (2, (Value.bool ct)), (3, (Value.bool kem)), (8, (Value.bool false)), (9, (Value.pointer (some ⟨b1, 0, none⟩))), (10, (Value.pointer (some ⟨b2, 0, none⟩))), (11, (Value.slice (some ⟨b4, 0, none⟩) 1 1))]) ⟨rfl, rfl, rfl, rfl, rfl, rfl, rfl, rfl, trivial⟩
  have hown : Own w w0.heap.size 26 3 (Value.slice (some ⟨b4, 0, none⟩) 1 1) 1 [(Value.int .i64 2), (Value.int .i64 0), (Value.slice (some ⟨g3, 0, none⟩) 1 1)] := own_fresh (n := 1) (m := 3) hb4 rfl (by decide) lob4
  have hts : IsTs w (b2 :: b1 :: oblk (Value.slice (some ⟨b4, 0, none⟩) 1 1)) [pubOf (Tm.mk 1 1 [])] [(Value.int .i64 2), (Value.int .i64 0), (Value.slice (some ⟨g3, 0, none⟩) 1 1)] := (IsTs.one (IsT.sub hTg3 (by simp [oblk])))
  have hnob2 : b2 ∉ oblk (Value.slice (some ⟨b4, 0, none⟩) 1 1) := by simp [oblk] <;> omega
  have hnob1 : b1 ∉ oblk (Value.slice (some ⟨b4, 0, none⟩) 1 1) := by simp [oblk] <;> omega
  refine then_n ?_
  refine wp_seq ?_
  refine wp_seq ?_
  refine wp_region_lit ?_
  refine wl (d_move rfl) rfl hF (fun ac hF => ?_)
  refine wl_nil ?_
  have hF := hF.sub (L' := [(0, (Value.bool draw)), (1, (Value.bool secret)), (2, (Value.bool ct)), (3, (Value.bool kem)), (8, (Value.bool false)), (9, (Value.pointer (some ⟨b1, 0, none⟩))), (10, (Value.pointer (some ⟨b2, 0, none⟩))), (11, (Value.slice (some ⟨b4, 0, none⟩) 1 1)), (18, (Value.bool draw))]) ⟨rfl, rfl, rfl, rfl, rfl, rfl, rfl, rfl, rfl, trivial⟩
  refine then_n ?_
  refine wp_join (fun ac w => ∃ (lv : Value) (xs : List Value), Frm ac 81 [(0, (Value.bool draw)), (1, (Value.bool secret)), (2, (Value.bool ct)), (3, (Value.bool kem)), (8, (Value.bool false)), (9, (Value.pointer (some ⟨b1, 0, none⟩))), (10, (Value.pointer (some ⟨b2, 0, none⟩))), (11, lv), (18, (Value.bool draw))] ∧ ((([pubOf (Tm.mk 1 1 [])]) ++ (bif draw then [Tm.mk 1 2 []] else [])).length ≤ 2) ∧ (Ch [] w0 w) ∧ (b1 < w.heap.size) ∧ (w0.heap.size ≤ b1) ∧ (w.heap[b1]? = some (.cells #[(Value.int .i64 1), (Value.int .i64 1), (Value.slice none 0 0)] 26 (0, 0))) ∧ (b2 < w.heap.size) ∧ (w0.heap.size ≤ b2) ∧ (w.heap[b2]? = some (.cells #[(Value.int .i64 1), (Value.int .i64 2), (Value.slice none 0 0)] 26 (0, 0))) ∧ (Own w w0.heap.size 26 3 lv (([pubOf (Tm.mk 1 1 [])]) ++ (bif draw then [Tm.mk 1 2 []] else [])).length xs) ∧ (IsTs w (b2 :: b1 :: oblk lv) (([pubOf (Tm.mk 1 1 [])]) ++ (bif draw then [Tm.mk 1 2 []] else [])) xs) ∧ (b2 ∉ oblk lv) ∧ (b1 ∉ oblk lv) ∧ True) ?_ ?_
  rotate_left
  · rintro ac w ⟨lv, xs, hF, hln, ⟨hC, hib1, lob1, hb1, hib2, lob2, hb2, hown, hts, hnob2, hnob1, _⟩⟩
    refine wp_seq ?_
    refine wp_seq ?_
    refine wp_region_lit ?_
    refine wl (d_move rfl) rfl hF (fun ac hF => ?_)
    refine wl_nil ?_
    have hF := hF.sub (L' := [(0, (Value.bool draw)), (1, (Value.bool secret)), (2, (Value.bool ct)), (3, (Value.bool kem)), (8, (Value.bool false)), (9, (Value.pointer (some ⟨b1, 0, none⟩))), (10, (Value.pointer (some ⟨b2, 0, none⟩))), (11, lv), (18, (Value.bool draw)), (23, (Value.bool secret))]) ⟨rfl, rfl, rfl, rfl, rfl, rfl, rfl, rfl, rfl, rfl, trivial⟩
    refine then_n ?_
    refine wp_join (fun ac w => ∃ (lv : Value) (xs : List Value), Frm ac 81 [(0, (Value.bool draw)), (1, (Value.bool secret)), (2, (Value.bool ct)), (3, (Value.bool kem)), (8, (Value.bool false)), (9, (Value.pointer (some ⟨b1, 0, none⟩))), (10, (Value.pointer (some ⟨b2, 0, none⟩))), (11, lv), (18, (Value.bool draw)), (23, (Value.bool secret))] ∧ (((([pubOf (Tm.mk 1 1 [])]) ++ (bif draw then [Tm.mk 1 2 []] else [])) ++ (bif secret then [Tm.mk 1 1 []] else [])).length ≤ 3) ∧ (Ch [] w0 w) ∧ (b1 < w.heap.size) ∧ (w0.heap.size ≤ b1) ∧ (w.heap[b1]? = some (.cells #[(Value.int .i64 1), (Value.int .i64 1), (Value.slice none 0 0)] 26 (0, 0))) ∧ (b2 < w.heap.size) ∧ (w0.heap.size ≤ b2) ∧ (w.heap[b2]? = some (.cells #[(Value.int .i64 1), (Value.int .i64 2), (Value.slice none 0 0)] 26 (0, 0))) ∧ (Own w w0.heap.size 26 3 lv ((([pubOf (Tm.mk 1 1 [])]) ++ (bif draw then [Tm.mk 1 2 []] else [])) ++ (bif secret then [Tm.mk 1 1 []] else [])).length xs) ∧ (IsTs w (b2 :: b1 :: oblk lv) ((([pubOf (Tm.mk 1 1 [])]) ++ (bif draw then [Tm.mk 1 2 []] else [])) ++ (bif secret then [Tm.mk 1 1 []] else [])) xs) ∧ (b2 ∉ oblk lv) ∧ (b1 ∉ oblk lv) ∧ True) ?_ ?_
    rotate_left
    · rintro ac w ⟨lv, xs, hF, hln, ⟨hC, hib1, lob1, hb1, hib2, lob2, hb2, hown, hts, hnob2, hnob1, _⟩⟩
      refine wp_seq ?_
      refine wp_seq ?_
      refine wp_region_lit ?_
      refine wl (d_move rfl) rfl hF (fun ac hF => ?_)
      refine wl_nil ?_
      have hF := hF.sub (L' := [(0, (Value.bool draw)), (1, (Value.bool secret)), (2, (Value.bool ct)), (3, (Value.bool kem)), (8, (Value.bool false)), (9, (Value.pointer (some ⟨b1, 0, none⟩))), (10, (Value.pointer (some ⟨b2, 0, none⟩))), (11, lv), (18, (Value.bool draw)), (23, (Value.bool secret)), (28, (Value.bool ct))]) ⟨rfl, rfl, rfl, rfl, rfl, rfl, rfl, rfl, rfl, rfl, rfl, trivial⟩
      refine then_n ?_
      refine wp_join (fun ac w => ∃ (lv : Value) (xs : List Value), Frm ac 81 [(0, (Value.bool draw)), (1, (Value.bool secret)), (2, (Value.bool ct)), (3, (Value.bool kem)), (8, (Value.bool false)), (9, (Value.pointer (some ⟨b1, 0, none⟩))), (10, (Value.pointer (some ⟨b2, 0, none⟩))), (11, lv), (18, (Value.bool draw)), (23, (Value.bool secret)), (28, (Value.bool ct))] ∧ ((((([pubOf (Tm.mk 1 1 [])]) ++ (bif draw then [Tm.mk 1 2 []] else [])) ++ (bif secret then [Tm.mk 1 1 []] else [])) ++ (bif ct then [Tm.mk 5 0 [Tm.mk 1 1 [], Tm.mk 1 2 []]] else [])).length ≤ 4) ∧ (Ch [] w0 w) ∧ (b1 < w.heap.size) ∧ (w0.heap.size ≤ b1) ∧ (w.heap[b1]? = some (.cells #[(Value.int .i64 1), (Value.int .i64 1), (Value.slice none 0 0)] 26 (0, 0))) ∧ (b2 < w.heap.size) ∧ (w0.heap.size ≤ b2) ∧ (w.heap[b2]? = some (.cells #[(Value.int .i64 1), (Value.int .i64 2), (Value.slice none 0 0)] 26 (0, 0))) ∧ (Own w w0.heap.size 26 3 lv (((([pubOf (Tm.mk 1 1 [])]) ++ (bif draw then [Tm.mk 1 2 []] else [])) ++ (bif secret then [Tm.mk 1 1 []] else [])) ++ (bif ct then [Tm.mk 5 0 [Tm.mk 1 1 [], Tm.mk 1 2 []]] else [])).length xs) ∧ (IsTs w (b2 :: b1 :: oblk lv) (((([pubOf (Tm.mk 1 1 [])]) ++ (bif draw then [Tm.mk 1 2 []] else [])) ++ (bif secret then [Tm.mk 1 1 []] else [])) ++ (bif ct then [Tm.mk 5 0 [Tm.mk 1 1 [], Tm.mk 1 2 []]] else [])) xs) ∧ (b2 ∉ oblk lv) ∧ (b1 ∉ oblk lv) ∧ True) ?_ ?_
      rotate_left
      · rintro ac w ⟨lv, xs, hF, hln, ⟨hC, hib1, lob1, hb1, hib2, lob2, hb2, hown, hts, hnob2, hnob1, _⟩⟩
        refine wp_seq ?_
        refine wp_region_lit ?_
        refine wl (d_move rfl) rfl hF (fun ac hF => ?_)
        refine wl (d_buildS (cells := #[(Value.bool false), (Value.bool kem)]) Tryd.underlying31 z31 (fun w => pl31 w _ Tryd.underlying31) rfl (by simp [Instr.fill, Value.cells])) rfl hF (fun ac hF => ?_)
        refine wlR (ok_alloc z31) rfl hF ?_
        rintro _ w ac ⟨b5, rfl, hnb_⟩ hF
        have hch_ : Ch [] _ w := hnb_.ch
        have lo_ := hnb_.lo hC.size
        have ne_b1_b5 := hnb_.gt hib1
        have ne_b2_b5 := hnb_.gt hib2
        have hts_ := hts
        have hnob5_ : b5 ∉ oblk lv := fun h_ => by have h1_ := (Own.lt hown _ h_).2; have h2_ := hnb_.num; omega
        have hC := hC.trans' hch_ (fun z hz => .inr (absurd hz (by simp)))
        have hib1 := Nat.lt_of_lt_of_le hib1 (hch_).size
        have hb1 := Ch.blk0 hch_ hb1 (by first | assumption | (simp; done) | (simp <;> omega))
        have hib2 := Nat.lt_of_lt_of_le hib2 (hch_).size
        have hb2 := Ch.blk0 hch_ hb2 (by first | assumption | (simp; done) | (simp <;> omega))
        have hown := Own.mv hown hch_ (fun b_ hb_ => by first | (simp; done) | (intro hm_; simp at hm_; subst hm_; contradiction))
        have hib5 : b5 < w.heap.size := hnb_.lt
        have lob5 : w0.heap.size ≤ b5 := lo_
        have hb5 : w.heap[b5]? = some (.cells #[(Value.bool false), (Value.bool false)] 31 (0, 0)) := hnb_.blk
        have ne_b1_b5 : b1 < b5 := ne_b1_b5
        have ne_b2_b5 : b2 < b5 := ne_b2_b5
        have hts : IsTs w (b5 :: b2 :: b1 :: oblk lv) (((([pubOf (Tm.mk 1 1 [])]) ++ (bif draw then [Tm.mk 1 2 []] else [])) ++ (bif secret then [Tm.mk 1 1 []] else [])) ++ (bif ct then [Tm.mk 5 0 [Tm.mk 1 1 [], Tm.mk 1 2 []]] else [])) xs := IsTs.mv hnb_.ch (by simp) (fun x hx => by rcases List.mem_cons.1 hx with rfl | hx; exact .inr (Nat.le_of_eq hnb_.num.symm); exact .inl hx) _ _ hts_
        have hnob5 : b5 ∉ oblk lv := hnob5_
        refine wl0R (ok_storeA (c' := #[(Value.bool false), (Value.bool kem)]) sz31 rfl rfl rfl (fun v hv => by simp at hv; rcases hv with rfl | rfl <;> rfl) hb5 rfl) hF ?_
        rintro w ac hu_ hF
        have hch_ : Ch [b5] _ w := hu_.ch
        have hC := hC.trans' hch_ (fun z hz => .inr ((by simp at hz; subst hz; assumption)))
        have hib1 := Nat.lt_of_lt_of_le hib1 (hch_).size
        have hb1 := Ch.blk0 hch_ hb1 (by first | assumption | (simp; done) | (simp <;> omega))
        have hib2 := Nat.lt_of_lt_of_le hib2 (hch_).size
        have hb2 := Ch.blk0 hch_ hb2 (by first | assumption | (simp; done) | (simp <;> omega))
        have hown := Own.mv hown hch_ (fun b_ hb_ => by first | (simp; done) | (intro hm_; simp at hm_; subst hm_; contradiction))
        have hts : IsTs w (b5 :: b2 :: b1 :: oblk lv) (((([pubOf (Tm.mk 1 1 [])]) ++ (bif draw then [Tm.mk 1 2 []] else [])) ++ (bif secret then [Tm.mk 1 1 []] else [])) ++ (bif ct then [Tm.mk 5 0 [Tm.mk 1 1 [], Tm.mk 1 2 []]] else [])) xs := IsTs.mv hch_ (by intro y hy; first | (simp at hy; done) | (simp at hy; subst hy; simp; done) | (simp [hy]; done)) (fun x hx => .inl hx) _ _ hts
        have hib5 := Nat.lt_of_lt_of_le hib5 (hch_).size
        have hb5 : w.heap[b5]? = some (.cells #[(Value.bool false), (Value.bool kem)] 31 (0, 0)) := hu_.blk
        refine wl_nil ?_
        have hF := hF.sub (L' := [(0, (Value.bool draw)), (1, (Value.bool secret)), (2, (Value.bool ct)), (3, (Value.bool kem)), (8, (Value.bool false)), (9, (Value.pointer (some ⟨b1, 0, none⟩))), (10, (Value.pointer (some ⟨b2, 0, none⟩))), (11, lv), (12, (Value.pointer (some ⟨b5, 0, none⟩))), (18, (Value.bool draw)), (23, (Value.bool secret)), (28, (Value.bool ct))]) ⟨rfl, rfl, rfl, rfl, rfl, rfl, rfl, rfl, rfl, rfl, rfl, rfl, trivial⟩
        refine then_n ?_
        refine wp_seq ?_
        obtain ⟨A1_0, hA1_0⟩ : ∃ A : (Nat → Value) → World → Prop, A = fun _ w => (Ch [] w0 w) ∧ (b1 < w.heap.size) ∧ (w0.heap.size ≤ b1) ∧ (w.heap[b1]? = some (.cells #[(Value.int .i64 1), (Value.int .i64 1), (Value.slice none 0 0)] 26 (0, 0))) ∧ (b2 < w.heap.size) ∧ (w0.heap.size ≤ b2) ∧ (w.heap[b2]? = some (.cells #[(Value.int .i64 1), (Value.int .i64 2), (Value.slice none 0 0)] 26 (0, 0))) ∧ (Own w w0.heap.size 26 3 lv (((([pubOf (Tm.mk 1 1 [])]) ++ (bif draw then [Tm.mk 1 2 []] else [])) ++ (bif secret then [Tm.mk 1 1 []] else [])) ++ (bif ct then [Tm.mk 5 0 [Tm.mk 1 1 [], Tm.mk 1 2 []]] else [])).length xs) ∧ (IsTs w (b5 :: b2 :: b1 :: oblk lv) (((([pubOf (Tm.mk 1 1 [])]) ++ (bif draw then [Tm.mk 1 2 []] else [])) ++ (bif secret then [Tm.mk 1 1 []] else [])) ++ (bif ct then [Tm.mk 5 0 [Tm.mk 1 1 [], Tm.mk 1 2 []]] else [])) xs) ∧ (b2 ∉ oblk lv) ∧ (b1 ∉ oblk lv) ∧ (b5 < w.heap.size) ∧ (w0.heap.size ≤ b5) ∧ (w.heap[b5]? = some (.cells #[(Value.bool false), (Value.bool kem)] 31 (0, 0))) ∧ (b1 < b5) ∧ (b2 < b5) ∧ (b5 ∉ oblk lv) ∧ True := ⟨_, rfl⟩
        obtain ⟨A1_1, hA1_1⟩ : ∃ A : (Nat → Value) → World → Prop, A = fun H1 w => (Ch [] w0 w) ∧ (b1 < w.heap.size) ∧ (w0.heap.size ≤ b1) ∧ (w.heap[b1]? = some (.cells #[(Value.int .i64 1), (Value.int .i64 1), (Value.slice none 0 0)] 26 (0, 0))) ∧ (b2 < w.heap.size) ∧ (w0.heap.size ≤ b2) ∧ (w.heap[b2]? = some (.cells #[(Value.int .i64 1), (Value.int .i64 2), (Value.slice none 0 0)] 26 (0, 0))) ∧ (Own w w0.heap.size 26 3 lv (((([pubOf (Tm.mk 1 1 [])]) ++ (bif draw then [Tm.mk 1 2 []] else [])) ++ (bif secret then [Tm.mk 1 1 []] else [])) ++ (bif ct then [Tm.mk 5 0 [Tm.mk 1 1 [], Tm.mk 1 2 []]] else [])).length xs) ∧ (IsTs w (b5 :: b2 :: b1 :: oblk lv) (((([pubOf (Tm.mk 1 1 [])]) ++ (bif draw then [Tm.mk 1 2 []] else [])) ++ (bif secret then [Tm.mk 1 1 []] else [])) ++ (bif ct then [Tm.mk 5 0 [Tm.mk 1 1 [], Tm.mk 1 2 []]] else [])) xs) ∧ (b2 ∉ oblk lv) ∧ (b1 ∉ oblk lv) ∧ (b5 < w.heap.size) ∧ (w0.heap.size ≤ b5) ∧ (w.heap[b5]? = some (.cells #[(Value.bool false), (Value.bool kem)] 31 (0, 0))) ∧ (b1 < b5) ∧ (b2 < b5) ∧ (b5 ∉ oblk lv) ∧ (IsT w (b5 :: b2 :: b1 :: oblk lv) (Tm.mk 4 0 [Tm.mk 1 1 [], Tm.mk 1 2 []]) [(Value.int .i64 4), (Value.int .i64 0), (Value.slice (some ⟨(blk (H1 4)), 0, none⟩) 2 2)]) ∧ (H1 4 = (Value.agg #[(Value.int .i64 4), (Value.int .i64 0), (Value.slice (some ⟨(blk (H1 4)), 0, none⟩) 2 2)])) ∧ True := ⟨_, rfl⟩
        obtain ⟨A1_2, hA1_2⟩ : ∃ A : (Nat → Value) → World → Prop, A = fun H1 w => (Ch [] w0 w) ∧ (b1 < w.heap.size) ∧ (w0.heap.size ≤ b1) ∧ (w.heap[b1]? = some (.cells #[(Value.int .i64 1), (Value.int .i64 1), (Value.slice none 0 0)] 26 (0, 0))) ∧ (b2 < w.heap.size) ∧ (w0.heap.size ≤ b2) ∧ (w.heap[b2]? = some (.cells #[(Value.int .i64 1), (Value.int .i64 2), (Value.slice none 0 0)] 26 (0, 0))) ∧ (Own w w0.heap.size 26 3 lv (((([pubOf (Tm.mk 1 1 [])]) ++ (bif draw then [Tm.mk 1 2 []] else [])) ++ (bif secret then [Tm.mk 1 1 []] else [])) ++ (bif ct then [Tm.mk 5 0 [Tm.mk 1 1 [], Tm.mk 1 2 []]] else [])).length xs) ∧ (IsTs w (b5 :: b2 :: b1 :: oblk lv) (((([pubOf (Tm.mk 1 1 [])]) ++ (bif draw then [Tm.mk 1 2 []] else [])) ++ (bif secret then [Tm.mk 1 1 []] else [])) ++ (bif ct then [Tm.mk 5 0 [Tm.mk 1 1 [], Tm.mk 1 2 []]] else [])) xs) ∧ (b2 ∉ oblk lv) ∧ (b1 ∉ oblk lv) ∧ (b5 < w.heap.size) ∧ (w0.heap.size ≤ b5) ∧ (w.heap[b5]? = some (.cells #[(Value.bool false), (Value.bool kem)] 31 (0, 0))) ∧ (b1 < b5) ∧ (b2 < b5) ∧ (b5 ∉ oblk lv) ∧ (IsT w (b5 :: b2 :: b1 :: oblk lv) (Tm.mk 4 0 [Tm.mk 1 1 [], Tm.mk 1 2 []]) [(Value.int .i64 4), (Value.int .i64 0), (Value.slice (some ⟨(blk (H1 4)), 0, none⟩) 2 2)]) ∧ (H1 4 = (Value.agg #[(Value.int .i64 4), (Value.int .i64 0), (Value.slice (some ⟨(blk (H1 4)), 0, none⟩) 2 2)])) ∧ True := ⟨_, rfl⟩
        obtain ⟨A1_3, hA1_3⟩ : ∃ A : (Nat → Value) → World → Prop, A = fun H1 w => (Ch [] w0 w) ∧ (b1 < w.heap.size) ∧ (w0.heap.size ≤ b1) ∧ (w.heap[b1]? = some (.cells #[(Value.int .i64 1), (Value.int .i64 1), (Value.slice none 0 0)] 26 (0, 0))) ∧ (b2 < w.heap.size) ∧ (w0.heap.size ≤ b2) ∧ (w.heap[b2]? = some (.cells #[(Value.int .i64 1), (Value.int .i64 2), (Value.slice none 0 0)] 26 (0, 0))) ∧ (Own w w0.heap.size 26 3 lv (((([pubOf (Tm.mk 1 1 [])]) ++ (bif draw then [Tm.mk 1 2 []] else [])) ++ (bif secret then [Tm.mk 1 1 []] else [])) ++ (bif ct then [Tm.mk 5 0 [Tm.mk 1 1 [], Tm.mk 1 2 []]] else [])).length xs) ∧ (IsTs w (b5 :: b2 :: b1 :: oblk lv) (((([pubOf (Tm.mk 1 1 [])]) ++ (bif draw then [Tm.mk 1 2 []] else [])) ++ (bif secret then [Tm.mk 1 1 []] else [])) ++ (bif ct then [Tm.mk 5 0 [Tm.mk 1 1 [], Tm.mk 1 2 []]] else [])) xs) ∧ (b2 ∉ oblk lv) ∧ (b1 ∉ oblk lv) ∧ (b5 < w.heap.size) ∧ (w0.heap.size ≤ b5) ∧ (w.heap[b5]? = some (.cells #[(Value.bool false), (Value.bool kem)] 31 (0, 0))) ∧ (b1 < b5) ∧ (b2 < b5) ∧ (b5 ∉ oblk lv) ∧ (IsT w (b5 :: b2 :: b1 :: oblk lv) (Tm.mk 4 0 [Tm.mk 1 1 [], Tm.mk 1 2 []]) [(Value.int .i64 4), (Value.int .i64 0), (Value.slice (some ⟨(blk (H1 4)), 0, none⟩) 2 2)]) ∧ (H1 4 = (Value.agg #[(Value.int .i64 4), (Value.int .i64 0), (Value.slice (some ⟨(blk (H1 4)), 0, none⟩) 2 2)])) ∧ (IsT w (b5 :: b2 :: b1 :: oblk lv) (Tm.mk 5 0 [Tm.mk 1 1 [], Tm.mk 1 2 []]) [(Value.int .i64 5), (Value.int .i64 0), (Value.slice (some ⟨(blk (H1 25)), 0, none⟩) 2 2)]) ∧ (H1 25 = (Value.agg #[(Value.int .i64 5), (Value.int .i64 0), (Value.slice (some ⟨(blk (H1 25)), 0, none⟩) 2 2)])) ∧ True := ⟨_, rfl⟩
        obtain ⟨A1_4, hA1_4⟩ : ∃ A : (Nat → Value) → World → Prop, A = fun H1 w => (Ch [] w0 w) ∧ (b1 < w.heap.size) ∧ (w0.heap.size ≤ b1) ∧ (w.heap[b1]? = some (.cells #[(Value.int .i64 1), (Value.int .i64 1), (Value.slice none 0 0)] 26 (0, 0))) ∧ (b2 < w.heap.size) ∧ (w0.heap.size ≤ b2) ∧ (w.heap[b2]? = some (.cells #[(Value.int .i64 1), (Value.int .i64 2), (Value.slice none 0 0)] 26 (0, 0))) ∧ (Own w w0.heap.size 26 3 lv (((([pubOf (Tm.mk 1 1 [])]) ++ (bif draw then [Tm.mk 1 2 []] else [])) ++ (bif secret then [Tm.mk 1 1 []] else [])) ++ (bif ct then [Tm.mk 5 0 [Tm.mk 1 1 [], Tm.mk 1 2 []]] else [])).length xs) ∧ (IsTs w (b5 :: b2 :: b1 :: oblk lv) (((([pubOf (Tm.mk 1 1 [])]) ++ (bif draw then [Tm.mk 1 2 []] else [])) ++ (bif secret then [Tm.mk 1 1 []] else [])) ++ (bif ct then [Tm.mk 5 0 [Tm.mk 1 1 [], Tm.mk 1 2 []]] else [])) xs) ∧ (b2 ∉ oblk lv) ∧ (b1 ∉ oblk lv) ∧ (b5 < w.heap.size) ∧ (w0.heap.size ≤ b5) ∧ (w.heap[b5]? = some (.cells #[(Value.bool false), (Value.bool kem)] 31 (0, 0))) ∧ (b1 < b5) ∧ (b2 < b5) ∧ (b5 ∉ oblk lv) ∧ (IsT w (b5 :: b2 :: b1 :: oblk lv) (Tm.mk 4 0 [Tm.mk 1 1 [], Tm.mk 1 2 []]) [(Value.int .i64 4), (Value.int .i64 0), (Value.slice (some ⟨(blk (H1 4)), 0, none⟩) 2 2)]) ∧ (H1 4 = (Value.agg #[(Value.int .i64 4), (Value.int .i64 0), (Value.slice (some ⟨(blk (H1 4)), 0, none⟩) 2 2)])) ∧ (IsT w (b5 :: b2 :: b1 :: oblk lv) (Tm.mk 5 0 [Tm.mk 1 1 [], Tm.mk 1 2 []]) [(Value.int .i64 5), (Value.int .i64 0), (Value.slice (some ⟨(blk (H1 25)), 0, none⟩) 2 2)]) ∧ (H1 25 = (Value.agg #[(Value.int .i64 5), (Value.int .i64 0), (Value.slice (some ⟨(blk (H1 25)), 0, none⟩) 2 2)])) ∧ True := ⟨_, rfl⟩
        obtain ⟨A1_5, hA1_5⟩ : ∃ A : (Nat → Value) → World → Prop, A = fun H1 w => (Ch [] w0 w) ∧ (b1 < w.heap.size) ∧ (w0.heap.size ≤ b1) ∧ (w.heap[b1]? = some (.cells #[(Value.int .i64 1), (Value.int .i64 1), (Value.slice none 0 0)] 26 (0, 0))) ∧ (b2 < w.heap.size) ∧ (w0.heap.size ≤ b2) ∧ (w.heap[b2]? = some (.cells #[(Value.int .i64 1), (Value.int .i64 2), (Value.slice none 0 0)] 26 (0, 0))) ∧ (Own w w0.heap.size 26 3 lv (((([pubOf (Tm.mk 1 1 [])]) ++ (bif draw then [Tm.mk 1 2 []] else [])) ++ (bif secret then [Tm.mk 1 1 []] else [])) ++ (bif ct then [Tm.mk 5 0 [Tm.mk 1 1 [], Tm.mk 1 2 []]] else [])).length xs) ∧ (IsTs w (b5 :: b2 :: b1 :: oblk lv) (((([pubOf (Tm.mk 1 1 [])]) ++ (bif draw then [Tm.mk 1 2 []] else [])) ++ (bif secret then [Tm.mk 1 1 []] else [])) ++ (bif ct then [Tm.mk 5 0 [Tm.mk 1 1 [], Tm.mk 1 2 []]] else [])) xs) ∧ (b2 ∉ oblk lv) ∧ (b1 ∉ oblk lv) ∧ (b5 < w.heap.size) ∧ (w0.heap.size ≤ b5) ∧ (w.heap[b5]? = some (.cells #[(Value.bool false), (Value.bool kem)] 31 (0, 0))) ∧ (b1 < b5) ∧ (b2 < b5) ∧ (b5 ∉ oblk lv) ∧ (IsT w (b5 :: b2 :: b1 :: oblk lv) (Tm.mk 4 0 [Tm.mk 1 1 [], Tm.mk 1 2 []]) [(Value.int .i64 4), (Value.int .i64 0), (Value.slice (some ⟨(blk (H1 4)), 0, none⟩) 2 2)]) ∧ (H1 4 = (Value.agg #[(Value.int .i64 4), (Value.int .i64 0), (Value.slice (some ⟨(blk (H1 4)), 0, none⟩) 2 2)])) ∧ (IsT w (b5 :: b2 :: b1 :: oblk lv) (Tm.mk 5 0 [Tm.mk 1 1 [], Tm.mk 1 2 []]) [(Value.int .i64 5), (Value.int .i64 0), (Value.slice (some ⟨(blk (H1 25)), 0, none⟩) 2 2)]) ∧ (H1 25 = (Value.agg #[(Value.int .i64 5), (Value.int .i64 0), (Value.slice (some ⟨(blk (H1 25)), 0, none⟩) 2 2)])) ∧ True := ⟨_, rfl⟩
        obtain ⟨A1_6, hA1_6⟩ : ∃ A : (Nat → Value) → World → Prop, A = fun H1 w => (Ch [] w0 w) ∧ (b1 < w.heap.size) ∧ (w0.heap.size ≤ b1) ∧ (w.heap[b1]? = some (.cells #[(Value.int .i64 1), (Value.int .i64 1), (Value.slice none 0 0)] 26 (0, 0))) ∧ (b2 < w.heap.size) ∧ (w0.heap.size ≤ b2) ∧ (w.heap[b2]? = some (.cells #[(Value.int .i64 1), (Value.int .i64 2), (Value.slice none 0 0)] 26 (0, 0))) ∧ (Own w w0.heap.size 26 3 lv (((([pubOf (Tm.mk 1 1 [])]) ++ (bif draw then [Tm.mk 1 2 []] else [])) ++ (bif secret then [Tm.mk 1 1 []] else [])) ++ (bif ct then [Tm.mk 5 0 [Tm.mk 1 1 [], Tm.mk 1 2 []]] else [])).length xs) ∧ (IsTs w (b5 :: b2 :: b1 :: oblk lv) (((([pubOf (Tm.mk 1 1 [])]) ++ (bif draw then [Tm.mk 1 2 []] else [])) ++ (bif secret then [Tm.mk 1 1 []] else [])) ++ (bif ct then [Tm.mk 5 0 [Tm.mk 1 1 [], Tm.mk 1 2 []]] else [])) xs) ∧ (b2 ∉ oblk lv) ∧ (b1 ∉ oblk lv) ∧ (b5 < w.heap.size) ∧ (w0.heap.size ≤ b5) ∧ (w.heap[b5]? = some (.cells #[(Value.bool false), (Value.bool kem)] 31 (0, 0))) ∧ (b1 < b5) ∧ (b2 < b5) ∧ (b5 ∉ oblk lv) ∧ (IsT w (b5 :: b2 :: b1 :: oblk lv) (Tm.mk 4 0 [Tm.mk 1 1 [], Tm.mk 1 2 []]) [(Value.int .i64 4), (Value.int .i64 0), (Value.slice (some ⟨(blk (H1 4)), 0, none⟩) 2 2)]) ∧ (H1 4 = (Value.agg #[(Value.int .i64 4), (Value.int .i64 0), (Value.slice (some ⟨(blk (H1 4)), 0, none⟩) 2 2)])) ∧ (IsT w (b5 :: b2 :: b1 :: oblk lv) (Tm.mk 5 0 [Tm.mk 1 1 [], Tm.mk 1 2 []]) [(Value.int .i64 5), (Value.int .i64 0), (Value.slice (some ⟨(blk (H1 25)), 0, none⟩) 2 2)]) ∧ (H1 25 = (Value.agg #[(Value.int .i64 5), (Value.int .i64 0), (Value.slice (some ⟨(blk (H1 25)), 0, none⟩) 2 2)])) ∧ True := ⟨_, rfl⟩
        refine region_hist mo (fun p_ H_ w_ => (([A1_0, A1_1, A1_2, A1_3, A1_4, A1_5, A1_6] : List ((Nat → Value) → World → Prop)).getD p_ (fun _ _ => True)) H_ w_) [4, 5, 25, 26, 37, 42] (rows := [hr_ [] [(12, (Value.pointer (some ⟨b5, 0, none⟩)))] [0, 1] (Value.agg #[(Value.bool false), (Value.bool kem)]), hr_ [] [(11, lv)] [0, 1] lv, hr_ [] [(9, (Value.pointer (some ⟨b1, 0, none⟩)))] [0] (Value.agg #[(Value.int .i64 1), (Value.int .i64 1), (Value.slice none 0 0)]), hr_ [] [(10, (Value.pointer (some ⟨b2, 0, none⟩)))] [0] (Value.agg #[(Value.int .i64 1), (Value.int .i64 2), (Value.slice none 0 0)]), ⟨[(2, 39), (3, 40)], [], [0], [4], fun H1 => H1 4, fun H1 K_ h_ => by simp only [h_ 4 (by simp)]⟩, hr_ [(0, 37), (1, 38), (4, 41)] [] [1] (Value.bool (draw || secret && ct || kem && ct)), hr_ [] [(0, (Value.bool draw))] [0, 1, 2] (Value.bool draw), hr_ [(6, 43)] [] [2] (Value.bool draw), hr_ [(7, 44)] [(1, (Value.bool secret))] [2] (kmv45 draw secret ct kem), hr_ [(8, 45), (7, 44)] [] [2] (kmv46 draw secret ct kem), hr_ [(9, 46)] [(2, (Value.bool ct))] [2] (kmv47 draw secret ct kem), hr_ [(9, 46), (10, 47), (7, 44)] [] [2] (kmv48 draw secret ct kem), hr_ [(7, 44), (11, 48)] [] [2] (kmv49 draw secret ct kem), hr_ [(12, 49)] [] [2] (kmv49 draw secret ct kem), hr_ [(13, 50)] [(3, (Value.bool kem))] [2] (kmv51 draw secret ct kem), hr_ [(14, 51), (13, 50)] [] [2] (kmv52 draw secret ct kem), hr_ [(15, 52)] [(2, (Value.bool ct))] [2] (kmv53 draw secret ct kem), hr_ [(15, 52), (16, 53), (13, 50)] [] [2] (kmv54 draw secret ct kem), hr_ [(13, 50), (17, 54)] [] [2] (kmv55 draw secret ct kem), hr_ [(5, 42), (18, 55)] [] [2] (Value.bool true), hr_ [(19, 56)] [] [2] (Value.bool true), hr_ [(20, 57)] [(12, (Value.pointer (some ⟨b5, 0, none⟩)))] [2, 3] (Value.agg #[(Value.bool false), (Value.bool kem)]), hr_ [(20, 57)] [(11, lv)] [2, 3] lv, hr_ [(20, 57)] [(9, (Value.pointer (some ⟨b1, 0, none⟩)))] [2] (Value.agg #[(Value.int .i64 1), (Value.int .i64 1), (Value.slice none 0 0)]), hr_ [(20, 57)] [(10, (Value.pointer (some ⟨b2, 0, none⟩)))] [2] (Value.agg #[(Value.int .i64 1), (Value.int .i64 2), (Value.slice none 0 0)]), ⟨[(23, 60), (24, 61), (20, 57)], [], [2], [25], fun H1 => H1 25, fun H1 K_ h_ => by simp only [h_ 25 (by simp)]⟩, hr_ [(21, 58), (22, 59), (25, 62), (20, 57)] [] [3] (Value.bool (draw || ct)), hr_ [(20, 57)] [(0, (Value.bool draw))] [2, 3, 4] (Value.bool draw), hr_ [(27, 64), (20, 57)] [] [4] (Value.bool draw), hr_ [(28, 65)] [(2, (Value.bool ct))] [4] (kmv66 draw secret ct kem), hr_ [(28, 65), (29, 66), (20, 57)] [] [4] (kmv67 draw secret ct kem), hr_ [(26, 63), (30, 67), (20, 57)] [] [4] (Value.bool true), hr_ [(20, 57), (31, 68)] [] [4] (Value.bool true), hr_ [(32, 69)] [] [4] (Value.bool true), hr_ [(33, 70)] [(12, (Value.pointer (some ⟨b5, 0, none⟩)))] [4] (Value.agg #[(Value.bool false), (Value.bool kem)]), hr_ [(33, 70)] [(11, lv)] [4] lv, hr_ [(33, 70)] [(10, (Value.pointer (some ⟨b2, 0, none⟩)))] [4] (Value.agg #[(Value.int .i64 1), (Value.int .i64 2), (Value.slice none 0 0)]), hr_ [(34, 71), (35, 72), (36, 73), (33, 70)] [] [4] (Value.bool draw), hr_ [(33, 70)] [(0, (Value.bool draw))] [4, 5] (Value.bool draw), hr_ [(37, 74), (38, 75), (33, 70)] [] [5] (Value.bool true), hr_ [(33, 70), (39, 76)] [] [5] (Value.bool true), hr_ [(40, 77)] [] [5] (Value.bool true), hr_ [(41, 78)] [] [5] (Value.bool true), hr_ [(41, 78), (42, 79)] [] [6] (Value.bool true), hr_ [(43, 80)] [] [6] (Value.bool true)]) (by kernel_rfl) hF (fun H_ => ?_) ?_ ?_
        · have hch_ := Ch.drew w
          have hfin_ : A1_0 H_ { w with drawn := w.drawn + 1 } := by rw [hA1_0]; exact ⟨hC.trans' hch_ (fun z hz => .inr (absurd hz (by simp))), Nat.lt_of_lt_of_le hib1 (hch_).size, lob1, Ch.blk0 hch_ hb1 (by first | assumption | (simp; done) | (simp <;> omega)), Nat.lt_of_lt_of_le hib2 (hch_).size, lob2, Ch.blk0 hch_ hb2 (by first | assumption | (simp; done) | (simp <;> omega)), Own.mv hown hch_ (fun b_ hb_ => by first | (simp; done) | (intro hm_; simp at hm_; subst hm_; contradiction)), IsTs.mv hch_ (by intro y hy; first | (simp at hy; done) | (simp at hy; subst hy; simp; done) | (simp [hy]; done)) (fun x hx => .inl hx) _ _ hts, hnob2, hnob1, Nat.lt_of_lt_of_le hib5 (hch_).size, lob5, Ch.blk0 hch_ hb5 (by first | assumption | (simp; done) | (simp <;> omega)), ne_b1_b5, ne_b2_b5, hnob5, trivial⟩
          exact hfin_
        · refine ⟨?_, ?_, ?_, ?_, ?_, ?_, ?_, ?_, ?_, ?_, ?_, ?_, ?_, ?_, ?_, ?_, ?_, ?_, ?_, ?_, ?_, ?_, ?_, ?_, ?_, ?_, ?_, ?_, ?_, ?_, ?_, ?_, ?_, ?_, ?_, ?_, ?_, ?_, ?_, ?_, ?_, ?_, ?_, ?_, ?_, trivial⟩
          · refine ⟨⟨rfl, trivial⟩, fun ph_ hp_ H1 w hW => ?_⟩
            rcases memN_or hp_ with rfl | hp_
            · have hW0 := hW
              replace hW : A1_0 H1 w := hW
              rw [hA1_0] at hW
              obtain ⟨hC, hib1, lob1, hb1, hib2, lob2, hb2, hown, hts, hnob2, hnob1, hib5, lob5, hb5, ne_b1_b5, ne_b2_b5, hnob5, _⟩ := hW
              exact Det.ohc rfl hW0 (d_loadC Tryd.underlying31 rfl sz31 rfl ((At.of_blk hb5)) rfl)
            obtain rfl := memN_one hp_
            · have hW0 := hW
              replace hW : A1_1 H1 w := hW
              rw [hA1_1] at hW
              obtain ⟨hC, hib1, lob1, hb1, hib2, lob2, hb2, hown, hts, hnob2, hnob1, hib5, lob5, hb5, ne_b1_b5, ne_b2_b5, hnob5, hTg6, hv1_4, _⟩ := hW
              exact Det.ohc rfl hW0 (d_loadC Tryd.underlying31 rfl sz31 rfl ((At.of_blk hb5)) rfl)
          · exact HOb.pure ⟨rfl, trivial⟩ rfl rfl (fun _ _ => d_move rfl)
          · exact HOb.fact hA1_0 ⟨rfl, trivial⟩ rfl rfl rfl rfl (fun H1 w ⟨_, _, _, hb1, _⟩ => d_loadC Tryd.underlying26 rfl sz26 rfl ((At.of_blk hb1)) rfl)
          · exact HOb.fact hA1_0 ⟨rfl, trivial⟩ rfl rfl rfl rfl (fun H1 w ⟨_, _, _, _, _, _, hb2, _⟩ => d_loadC Tryd.underlying26 rfl sz26 rfl ((At.of_blk hb2)) rfl)
          · refine ⟨trivial, fun ph_ hp_ H1 w hW => ?_⟩
            obtain rfl := memN_one hp_
            replace hW : A1_0 H1 w := hW
            rw [hA1_0] at hW
            obtain ⟨hC, hib1, lob1, hb1, hib2, lob2, hb2, hown, hts, hnob2, hnob1, hib5, lob5, hb5, ne_b1_b5, ne_b2_b5, hnob5, _⟩ := hW
            have hX_ : ∀ x, x ∈ (b5 :: b2 :: b1 :: oblk lv) → x < w.heap.size := by
              intro x hx
              simp only [List.mem_cons, List.not_mem_nil, or_false] at hx
              rcases hx with rfl | rfl | rfl | hx
              · exact hib5
              · exact hib2
              · exact hib1
              · exact (Own.lt hown x hx).2
            refine Ok1.mono (ok_call c18 rfl (two_calls (X := (b5 :: b2 :: b1 :: oblk lv)) (a := Tm.mk 1 1 []) (b := Tm.mk 1 2 []) _ hX_ (isT_atom _ _ _) (isT_atom _ _ _))) ?_
            rintro _ w' ⟨g6, rfl, hTg6, hg_⟩
            have hch_ : Ch [] _ w' := Gr.ch hg_
            have hC := hC.trans' hch_ (fun z hz => .inr (absurd hz (by simp)))
            have hib1 := Nat.lt_of_lt_of_le hib1 (hch_).size
            have hb1 := Ch.blk0 hch_ hb1 (by first | assumption | (simp; done) | (simp <;> omega))
            have hib2 := Nat.lt_of_lt_of_le hib2 (hch_).size
            have hb2 := Ch.blk0 hch_ hb2 (by first | assumption | (simp; done) | (simp <;> omega))
            have hown := Own.mv hown hch_ (fun b_ hb_ => by first | (simp; done) | (intro hm_; simp at hm_; subst hm_; contradiction))
            have hts : IsTs w' (b5 :: b2 :: b1 :: oblk lv) (((([pubOf (Tm.mk 1 1 [])]) ++ (bif draw then [Tm.mk 1 2 []] else [])) ++ (bif secret then [Tm.mk 1 1 []] else [])) ++ (bif ct then [Tm.mk 5 0 [Tm.mk 1 1 [], Tm.mk 1 2 []]] else [])) xs := IsTs.mv hch_ (by intro y hy; first | (simp at hy; done) | (simp at hy; subst hy; simp; done) | (simp [hy]; done)) (fun x hx => .inl hx) _ _ hts
            have hib5 := Nat.lt_of_lt_of_le hib5 (hch_).size
            have hb5 := Ch.blk0 hch_ hb5 (by first | assumption | (simp; done) | (simp <;> omega))
            have hfin_ : A1_1 (updV H1 4 (Value.agg #[(Value.int .i64 4), (Value.int .i64 0), (Value.slice (some ⟨g6, 0, none⟩) 2 2)])) w' := by rw [hA1_1]; exact ⟨hC, hib1, lob1, hb1, hib2, lob2, hb2, hown, hts, hnob2, hnob1, hib5, lob5, hb5, ne_b1_b5, ne_b2_b5, hnob5, hTg6, rfl, trivial⟩
            exact fin_ rfl ⟨hfin_, rfl⟩
          · refine ⟨trivial, fun ph_ hp_ H1 w hW => ?_⟩
            obtain rfl := memN_one hp_
            replace hW : A1_1 H1 w := hW
            rw [hA1_1] at hW
            obtain ⟨hC, hib1, lob1, hb1, hib2, lob2, hb2, hown, hts, hnob2, hnob1, hib5, lob5, hb5, ne_b1_b5, ne_b2_b5, hnob5, hTg6, hv1_4, _⟩ := hW
            refine Ok1.sub (L' := [(37, (Value.agg #[(Value.bool false), (Value.bool kem)])), (38, lv), (41, (Value.agg #[(Value.int .i64 4), (Value.int .i64 0), (Value.slice (some ⟨(blk (H1 4)), 0, none⟩) 2 2)]))]) ⟨rfl, rfl, congrArg some hv1_4, trivial⟩ (Ok1.mono (ok_call c19 rfl (Knows_own (W := ⟨false, kem⟩) (known := ((([pubOf (Tm.mk 1 1 [])]) ++ (bif draw then [Tm.mk 1 2 []] else [])) ++ (bif secret then [Tm.mk 1 1 []] else [])) ++ (bif ct then [Tm.mk 5 0 [Tm.mk 1 1 [], Tm.mk 1 2 []]] else [])) (t := Tm.mk 4 0 [Tm.mk 1 1 [], Tm.mk 1 2 []]) (kems_1 draw secret ct kem) _ (hT0 _ _ (hC.below hw0.size (by simp)) hw0) (by omega) hown hts (IsT.sub (X := (b5 :: b2 :: b1 :: oblk lv)) (X' := []) hTg6 (by simp)))) ?_)
            rintro _ w' ⟨rfl, hg_⟩
            have hch_ : Ch [] _ w' := Gr.ch hg_
            have hC := hC.trans' hch_ (fun z hz => .inr (absurd hz (by simp)))
            have hib1 := Nat.lt_of_lt_of_le hib1 (hch_).size
            have hb1 := Ch.blk0 hch_ hb1 (by first | assumption | (simp; done) | (simp <;> omega))
            have hib2 := Nat.lt_of_lt_of_le hib2 (hch_).size
            have hb2 := Ch.blk0 hch_ hb2 (by first | assumption | (simp; done) | (simp <;> omega))
            have hown := Own.mv hown hch_ (fun b_ hb_ => by first | (simp; done) | (intro hm_; simp at hm_; subst hm_; contradiction))
            have hts : IsTs w' (b5 :: b2 :: b1 :: oblk lv) (((([pubOf (Tm.mk 1 1 [])]) ++ (bif draw then [Tm.mk 1 2 []] else [])) ++ (bif secret then [Tm.mk 1 1 []] else [])) ++ (bif ct then [Tm.mk 5 0 [Tm.mk 1 1 [], Tm.mk 1 2 []]] else [])) xs := IsTs.mv hch_ (by intro y hy; first | (simp at hy; done) | (simp at hy; subst hy; simp; done) | (simp [hy]; done)) (fun x hx => .inl hx) _ _ hts
            have hib5 := Nat.lt_of_lt_of_le hib5 (hch_).size
            have hb5 := Ch.blk0 hch_ hb5 (by first | assumption | (simp; done) | (simp <;> omega))
            have hTg6 : IsT w' (b5 :: b2 :: b1 :: oblk lv) (Tm.mk 4 0 [Tm.mk 1 1 [], Tm.mk 1 2 []]) [(Value.int .i64 4), (Value.int .i64 0), (Value.slice (some ⟨(blk (H1 4)), 0, none⟩) 2 2)] := IsT.mv hch_ (by intro y hy; first | (simp at hy; done) | (simp at hy; subst hy; simp; done) | (simp [hy]; done)) (fun x hx => .inl hx) _ _ hTg6
            have hfin_ : A1_2 (updV H1 5 (Value.bool (draw || secret && ct || kem && ct))) w' := by rw [hA1_2]; exact ⟨hC, hib1, lob1, hb1, hib2, lob2, hb2, hown, hts, hnob2, hnob1, hib5, lob5, hb5, ne_b1_b5, ne_b2_b5, hnob5, hTg6, hv1_4, trivial⟩
            exact fin_ rfl ⟨hfin_, rfl⟩
          · exact HOb.pure ⟨rfl, trivial⟩ rfl rfl (fun _ _ => d_move rfl)
          · exact HOb.pure trivial rfl rfl (fun _ _ => d_move rfl)
          · refine ⟨⟨rfl, trivial⟩, fun ph_ hp_ H1 w hW => ?_⟩
            obtain rfl := memN_one hp_
            cases draw <;> cases secret <;> first | exact ⟨some false, _, rfl, rfl, Det.ohc rfl hW (d_move rfl)⟩ | exact ⟨some true, _, rfl, rfl, rfl, rfl⟩
          · refine ⟨trivial, fun ph_ hp_ H1 w hW => ?_⟩
            obtain rfl := memN_one hp_
            cases draw <;> cases secret <;> cases ct <;> cases kem <;> first | exact ⟨some false, _, rfl, rfl, Det.ohc rfl hW (d_move rfl)⟩ | exact ⟨some true, _, rfl, rfl, rfl, rfl⟩
          · refine ⟨⟨rfl, trivial⟩, fun ph_ hp_ H1 w hW => ?_⟩
            obtain rfl := memN_one hp_
            cases draw <;> cases secret <;> cases ct <;> cases kem <;> first | exact ⟨some false, _, rfl, rfl, rfl, rfl⟩ | exact ⟨some true, _, rfl, rfl, Det.ohc rfl hW (d_move rfl)⟩ | exact ⟨none, _, rfl, rfl, rfl, rfl⟩
          · refine ⟨trivial, fun ph_ hp_ H1 w hW => ?_⟩
            obtain rfl := memN_one hp_
            cases draw <;> cases secret <;> cases ct <;> cases kem <;> first | exact ⟨some false, _, rfl, rfl, Det.ohc rfl hW (d_pick rfl rfl)⟩ | exact ⟨some true, _, rfl, rfl, rfl, rfl⟩
          · refine ⟨trivial, fun ph_ hp_ H1 w hW => ?_⟩
            obtain rfl := memN_one hp_
            cases draw <;> cases secret <;> cases ct <;> cases kem <;> exact Det.ohc rfl hW (d_pick rfl rfl)
          · exact HOb.pure trivial rfl rfl (fun _ _ => d_move rfl)
          · refine ⟨⟨rfl, trivial⟩, fun ph_ hp_ H1 w hW => ?_⟩
            obtain rfl := memN_one hp_
            cases draw <;> cases secret <;> cases ct <;> cases kem <;> first | exact ⟨some false, _, rfl, rfl, Det.ohc rfl hW (d_move rfl)⟩ | exact ⟨some true, _, rfl, rfl, rfl, rfl⟩
          · refine ⟨trivial, fun ph_ hp_ H1 w hW => ?_⟩
            obtain rfl := memN_one hp_
            cases draw <;> cases secret <;> cases ct <;> cases kem <;> first | exact ⟨some false, _, rfl, rfl, Det.ohc rfl hW (d_move rfl)⟩ | exact ⟨some true, _, rfl, rfl, rfl, rfl⟩
          · refine ⟨⟨rfl, trivial⟩, fun ph_ hp_ H1 w hW => ?_⟩
            obtain rfl := memN_one hp_
            cases draw <;> cases secret <;> cases ct <;> cases kem <;> first | exact ⟨some false, _, rfl, rfl, rfl, rfl⟩ | exact ⟨some true, _, rfl, rfl, Det.ohc rfl hW (d_move rfl)⟩ | exact ⟨none, _, rfl, rfl, rfl, rfl⟩
          · refine ⟨trivial, fun ph_ hp_ H1 w hW => ?_⟩
            obtain rfl := memN_one hp_
            cases draw <;> cases secret <;> cases ct <;> cases kem <;> first | exact ⟨some false, _, rfl, rfl, Det.ohc rfl hW (d_pick rfl rfl)⟩ | exact ⟨some true, _, rfl, rfl, rfl, rfl⟩
          · refine ⟨trivial, fun ph_ hp_ H1 w hW => ?_⟩
            obtain rfl := memN_one hp_
            cases draw <;> cases secret <;> cases ct <;> cases kem <;> exact Det.ohc rfl hW (d_pick rfl rfl)
          · refine ⟨trivial, fun ph_ hp_ H1 w hW => ?_⟩
            obtain rfl := memN_one hp_
            cases draw <;> cases secret <;> cases ct <;> cases kem <;> exact Det.ohc rfl hW (d_bool (c := true) (d_eqlB Tryd.underlying4 rfl rfl) rfl)
          · exact HOb.pure trivial rfl rfl (fun _ _ => d_move rfl)
          · refine ⟨⟨rfl, trivial⟩, fun ph_ hp_ H1 w hW => ?_⟩
            rcases memN_or hp_ with rfl | hp_
            · have hW0 := hW
              replace hW : A1_2 H1 w := hW
              rw [hA1_2] at hW
              obtain ⟨hC, hib1, lob1, hb1, hib2, lob2, hb2, hown, hts, hnob2, hnob1, hib5, lob5, hb5, ne_b1_b5, ne_b2_b5, hnob5, hTg6, hv1_4, _⟩ := hW
              exact ⟨(some true), _, rfl, rfl, Det.ohc rfl hW0 (d_loadC Tryd.underlying31 rfl sz31 rfl ((At.of_blk hb5)) rfl)⟩
            obtain rfl := memN_one hp_
            · have hW0 := hW
              replace hW : A1_3 H1 w := hW
              rw [hA1_3] at hW
              obtain ⟨hC, hib1, lob1, hb1, hib2, lob2, hb2, hown, hts, hnob2, hnob1, hib5, lob5, hb5, ne_b1_b5, ne_b2_b5, hnob5, hTg6, hv1_4, hTg7, hv1_25, _⟩ := hW
              exact ⟨(some true), _, rfl, rfl, Det.ohc rfl hW0 (d_loadC Tryd.underlying31 rfl sz31 rfl ((At.of_blk hb5)) rfl)⟩
          · exact HOb.pureG ⟨rfl, trivial⟩ rfl rfl (fun _ => rfl) rfl (fun _ _ => d_move rfl)
          · exact HOb.factG hA1_2 ⟨rfl, trivial⟩ rfl rfl rfl rfl (fun _ => rfl) rfl (fun H1 w ⟨_, _, _, hb1, _⟩ => d_loadC Tryd.underlying26 rfl sz26 rfl ((At.of_blk hb1)) rfl)
          · exact HOb.factG hA1_2 ⟨rfl, trivial⟩ rfl rfl rfl rfl (fun _ => rfl) rfl (fun H1 w ⟨_, _, _, _, _, _, hb2, _⟩ => d_loadC Tryd.underlying26 rfl sz26 rfl ((At.of_blk hb2)) rfl)
          · refine ⟨trivial, fun ph_ hp_ H1 w hW => ?_⟩
            obtain rfl := memN_one hp_
            replace hW : A1_2 H1 w := hW
            rw [hA1_2] at hW
            obtain ⟨hC, hib1, lob1, hb1, hib2, lob2, hb2, hown, hts, hnob2, hnob1, hib5, lob5, hb5, ne_b1_b5, ne_b2_b5, hnob5, hTg6, hv1_4, _⟩ := hW
            have hX_ : ∀ x, x ∈ (b5 :: b2 :: b1 :: oblk lv) → x < w.heap.size := by
              intro x hx
              simp only [List.mem_cons, List.not_mem_nil, or_false] at hx
              rcases hx with rfl | rfl | rfl | hx
              · exact hib5
              · exact hib2
              · exact hib1
              · exact (Own.lt hown x hx).2
            refine ⟨(some true), _, rfl, rfl, Ok1.mono (ok_call c18 rfl (two_calls (X := (b5 :: b2 :: b1 :: oblk lv)) (a := Tm.mk 1 1 []) (b := Tm.mk 1 2 []) _ hX_ (isT_atom _ _ _) (isT_atom _ _ _))) ?_⟩
            rintro _ w' ⟨g7, rfl, hTg7, hg_⟩
            have hch_ : Ch [] _ w' := Gr.ch hg_
            have hC := hC.trans' hch_ (fun z hz => .inr (absurd hz (by simp)))
            have hib1 := Nat.lt_of_lt_of_le hib1 (hch_).size
            have hb1 := Ch.blk0 hch_ hb1 (by first | assumption | (simp; done) | (simp <;> omega))
            have hib2 := Nat.lt_of_lt_of_le hib2 (hch_).size
            have hb2 := Ch.blk0 hch_ hb2 (by first | assumption | (simp; done) | (simp <;> omega))
            have hown := Own.mv hown hch_ (fun b_ hb_ => by first | (simp; done) | (intro hm_; simp at hm_; subst hm_; contradiction))
            have hts : IsTs w' (b5 :: b2 :: b1 :: oblk lv) (((([pubOf (Tm.mk 1 1 [])]) ++ (bif draw then [Tm.mk 1 2 []] else [])) ++ (bif secret then [Tm.mk 1 1 []] else [])) ++ (bif ct then [Tm.mk 5 0 [Tm.mk 1 1 [], Tm.mk 1 2 []]] else [])) xs := IsTs.mv hch_ (by intro y hy; first | (simp at hy; done) | (simp at hy; subst hy; simp; done) | (simp [hy]; done)) (fun x hx => .inl hx) _ _ hts
            have hib5 := Nat.lt_of_lt_of_le hib5 (hch_).size
            have hb5 := Ch.blk0 hch_ hb5 (by first | assumption | (simp; done) | (simp <;> omega))
            have hTg6 : IsT w' (b5 :: b2 :: b1 :: oblk lv) (Tm.mk 4 0 [Tm.mk 1 1 [], Tm.mk 1 2 []]) [(Value.int .i64 4), (Value.int .i64 0), (Value.slice (some ⟨(blk (H1 4)), 0, none⟩) 2 2)] := IsT.mv hch_ (by intro y hy; first | (simp at hy; done) | (simp at hy; subst hy; simp; done) | (simp [hy]; done)) (fun x hx => .inl hx) _ _ hTg6
            have hfin_ : A1_3 (updV H1 25 (Value.agg #[(Value.int .i64 5), (Value.int .i64 0), (Value.slice (some ⟨g7, 0, none⟩) 2 2)])) w' := by rw [hA1_3]; exact ⟨hC, hib1, lob1, hb1, hib2, lob2, hb2, hown, hts, hnob2, hnob1, hib5, lob5, hb5, ne_b1_b5, ne_b2_b5, hnob5, hTg6, hv1_4, hTg7, rfl, trivial⟩
            exact fin_ rfl ⟨hfin_, rfl⟩
          · refine ⟨trivial, fun ph_ hp_ H1 w hW => ?_⟩
            obtain rfl := memN_one hp_
            replace hW : A1_3 H1 w := hW
            rw [hA1_3] at hW
            obtain ⟨hC, hib1, lob1, hb1, hib2, lob2, hb2, hown, hts, hnob2, hnob1, hib5, lob5, hb5, ne_b1_b5, ne_b2_b5, hnob5, hTg6, hv1_4, hTg7, hv1_25, _⟩ := hW
            refine ⟨(some true), _, rfl, rfl, Ok1.sub (L' := [(57, (Value.bool true)), (58, (Value.agg #[(Value.bool false), (Value.bool kem)])), (59, lv), (62, (Value.agg #[(Value.int .i64 5), (Value.int .i64 0), (Value.slice (some ⟨(blk (H1 25)), 0, none⟩) 2 2)]))]) ⟨rfl, rfl, rfl, congrArg some hv1_25, trivial⟩ (Ok1.mono (ok_call c19 rfl (Knows_own (W := ⟨false, kem⟩) (known := ((([pubOf (Tm.mk 1 1 [])]) ++ (bif draw then [Tm.mk 1 2 []] else [])) ++ (bif secret then [Tm.mk 1 1 []] else [])) ++ (bif ct then [Tm.mk 5 0 [Tm.mk 1 1 [], Tm.mk 1 2 []]] else [])) (t := Tm.mk 5 0 [Tm.mk 1 1 [], Tm.mk 1 2 []]) (kems_2 draw secret ct kem) _ (hT0 _ _ (hC.below hw0.size (by simp)) hw0) (by omega) hown hts (IsT.sub (X := (b5 :: b2 :: b1 :: oblk lv)) (X' := []) hTg7 (by simp)))) ?_)⟩
            rintro _ w' ⟨rfl, hg_⟩
            have hch_ : Ch [] _ w' := Gr.ch hg_
            have hC := hC.trans' hch_ (fun z hz => .inr (absurd hz (by simp)))
            have hib1 := Nat.lt_of_lt_of_le hib1 (hch_).size
            have hb1 := Ch.blk0 hch_ hb1 (by first | assumption | (simp; done) | (simp <;> omega))
            have hib2 := Nat.lt_of_lt_of_le hib2 (hch_).size
            have hb2 := Ch.blk0 hch_ hb2 (by first | assumption | (simp; done) | (simp <;> omega))
            have hown := Own.mv hown hch_ (fun b_ hb_ => by first | (simp; done) | (intro hm_; simp at hm_; subst hm_; contradiction))
            have hts : IsTs w' (b5 :: b2 :: b1 :: oblk lv) (((([pubOf (Tm.mk 1 1 [])]) ++ (bif draw then [Tm.mk 1 2 []] else [])) ++ (bif secret then [Tm.mk 1 1 []] else [])) ++ (bif ct then [Tm.mk 5 0 [Tm.mk 1 1 [], Tm.mk 1 2 []]] else [])) xs := IsTs.mv hch_ (by intro y hy; first | (simp at hy; done) | (simp at hy; subst hy; simp; done) | (simp [hy]; done)) (fun x hx => .inl hx) _ _ hts
            have hib5 := Nat.lt_of_lt_of_le hib5 (hch_).size
            have hb5 := Ch.blk0 hch_ hb5 (by first | assumption | (simp; done) | (simp <;> omega))
            have hTg6 : IsT w' (b5 :: b2 :: b1 :: oblk lv) (Tm.mk 4 0 [Tm.mk 1 1 [], Tm.mk 1 2 []]) [(Value.int .i64 4), (Value.int .i64 0), (Value.slice (some ⟨(blk (H1 4)), 0, none⟩) 2 2)] := IsT.mv hch_ (by intro y hy; first | (simp at hy; done) | (simp at hy; subst hy; simp; done) | (simp [hy]; done)) (fun x hx => .inl hx) _ _ hTg6
            have hTg7 : IsT w' (b5 :: b2 :: b1 :: oblk lv) (Tm.mk 5 0 [Tm.mk 1 1 [], Tm.mk 1 2 []]) [(Value.int .i64 5), (Value.int .i64 0), (Value.slice (some ⟨(blk (H1 25)), 0, none⟩) 2 2)] := IsT.mv hch_ (by intro y hy; first | (simp at hy; done) | (simp at hy; subst hy; simp; done) | (simp [hy]; done)) (fun x hx => .inl hx) _ _ hTg7
            have hfin_ : A1_4 (updV H1 26 (Value.bool (draw || ct))) w' := by rw [hA1_4]; exact ⟨hC, hib1, lob1, hb1, hib2, lob2, hb2, hown, hts, hnob2, hnob1, hib5, lob5, hb5, ne_b1_b5, ne_b2_b5, hnob5, hTg6, hv1_4, hTg7, hv1_25, trivial⟩
            exact fin_ rfl ⟨hfin_, rfl⟩
          · exact HOb.pureG ⟨rfl, trivial⟩ rfl rfl (fun _ => rfl) rfl (fun _ _ => d_move rfl)
          · exact HOb.pureG trivial rfl rfl (fun _ => rfl) rfl (fun _ _ => d_move rfl)
          · refine ⟨⟨rfl, trivial⟩, fun ph_ hp_ H1 w hW => ?_⟩
            obtain rfl := memN_one hp_
            cases draw <;> cases ct <;> first | exact ⟨some false, _, rfl, rfl, Det.ohc rfl hW (d_move rfl)⟩ | exact ⟨some true, _, rfl, rfl, rfl, rfl⟩
          · refine ⟨trivial, fun ph_ hp_ H1 w hW => ?_⟩
            obtain rfl := memN_one hp_
            cases draw <;> cases secret <;> cases ct <;> cases kem <;> exact ⟨some true, _, rfl, rfl, Det.ohc rfl hW (d_pick rfl rfl)⟩
          · refine ⟨trivial, fun ph_ hp_ H1 w hW => ?_⟩
            obtain rfl := memN_one hp_
            cases draw <;> cases secret <;> cases ct <;> cases kem <;> exact ⟨some true, _, rfl, rfl, Det.ohc rfl hW (d_bool (c := true) (d_eqlB Tryd.underlying4 rfl rfl) rfl)⟩
          · exact HOb.pure trivial rfl rfl (fun _ _ => d_pick (b := true) rfl rfl)
          · exact HOb.pure trivial rfl rfl (fun _ _ => d_move rfl)
          · exact HOb.factG hA1_4 ⟨rfl, trivial⟩ rfl rfl rfl rfl (fun _ => rfl) rfl (fun H1 w ⟨_, _, _, _, _, _, _, _, _, _, _, _, _, hb5, _⟩ => d_loadC Tryd.underlying31 rfl sz31 rfl ((At.of_blk hb5)) rfl)
          · exact HOb.pureG ⟨rfl, trivial⟩ rfl rfl (fun _ => rfl) rfl (fun _ _ => d_move rfl)
          · exact HOb.factG hA1_4 ⟨rfl, trivial⟩ rfl rfl rfl rfl (fun _ => rfl) rfl (fun H1 w ⟨_, _, _, _, _, _, hb2, _⟩ => d_loadC Tryd.underlying26 rfl sz26 rfl ((At.of_blk hb2)) rfl)
          · refine ⟨trivial, fun ph_ hp_ H1 w hW => ?_⟩
            obtain rfl := memN_one hp_
            replace hW : A1_4 H1 w := hW
            rw [hA1_4] at hW
            obtain ⟨hC, hib1, lob1, hb1, hib2, lob2, hb2, hown, hts, hnob2, hnob1, hib5, lob5, hb5, ne_b1_b5, ne_b2_b5, hnob5, hTg6, hv1_4, hTg7, hv1_25, _⟩ := hW
            refine ⟨(some true), _, rfl, rfl, Ok1.mono (ok_call c19 rfl (Knows_own (W := ⟨false, kem⟩) (known := ((([pubOf (Tm.mk 1 1 [])]) ++ (bif draw then [Tm.mk 1 2 []] else [])) ++ (bif secret then [Tm.mk 1 1 []] else [])) ++ (bif ct then [Tm.mk 5 0 [Tm.mk 1 1 [], Tm.mk 1 2 []]] else [])) (t := Tm.mk 1 2 []) (kems_3 draw secret ct kem) _ (hT0 _ _ (hC.below hw0.size (by simp)) hw0) (by omega) hown hts (IsT.sub (X := (b5 :: b2 :: b1 :: oblk lv)) (X' := []) (isT_atom _ _ _) (by simp)))) ?_⟩
            rintro _ w' ⟨rfl, hg_⟩
            have hch_ : Ch [] _ w' := Gr.ch hg_
            have hC := hC.trans' hch_ (fun z hz => .inr (absurd hz (by simp)))
            have hib1 := Nat.lt_of_lt_of_le hib1 (hch_).size
            have hb1 := Ch.blk0 hch_ hb1 (by first | assumption | (simp; done) | (simp <;> omega))
            have hib2 := Nat.lt_of_lt_of_le hib2 (hch_).size
            have hb2 := Ch.blk0 hch_ hb2 (by first | assumption | (simp; done) | (simp <;> omega))
            have hown := Own.mv hown hch_ (fun b_ hb_ => by first | (simp; done) | (intro hm_; simp at hm_; subst hm_; contradiction))
            have hts : IsTs w' (b5 :: b2 :: b1 :: oblk lv) (((([pubOf (Tm.mk 1 1 [])]) ++ (bif draw then [Tm.mk 1 2 []] else [])) ++ (bif secret then [Tm.mk 1 1 []] else [])) ++ (bif ct then [Tm.mk 5 0 [Tm.mk 1 1 [], Tm.mk 1 2 []]] else [])) xs := IsTs.mv hch_ (by intro y hy; first | (simp at hy; done) | (simp at hy; subst hy; simp; done) | (simp [hy]; done)) (fun x hx => .inl hx) _ _ hts
            have hib5 := Nat.lt_of_lt_of_le hib5 (hch_).size
            have hb5 := Ch.blk0 hch_ hb5 (by first | assumption | (simp; done) | (simp <;> omega))
            have hTg6 : IsT w' (b5 :: b2 :: b1 :: oblk lv) (Tm.mk 4 0 [Tm.mk 1 1 [], Tm.mk 1 2 []]) [(Value.int .i64 4), (Value.int .i64 0), (Value.slice (some ⟨(blk (H1 4)), 0, none⟩) 2 2)] := IsT.mv hch_ (by intro y hy; first | (simp at hy; done) | (simp at hy; subst hy; simp; done) | (simp [hy]; done)) (fun x hx => .inl hx) _ _ hTg6
            have hTg7 : IsT w' (b5 :: b2 :: b1 :: oblk lv) (Tm.mk 5 0 [Tm.mk 1 1 [], Tm.mk 1 2 []]) [(Value.int .i64 5), (Value.int .i64 0), (Value.slice (some ⟨(blk (H1 25)), 0, none⟩) 2 2)] := IsT.mv hch_ (by intro y hy; first | (simp at hy; done) | (simp at hy; subst hy; simp; done) | (simp [hy]; done)) (fun x hx => .inl hx) _ _ hTg7
            have hfin_ : A1_5 (updV H1 37 (Value.bool draw)) w' := by rw [hA1_5]; exact ⟨hC, hib1, lob1, hb1, hib2, lob2, hb2, hown, hts, hnob2, hnob1, hib5, lob5, hb5, ne_b1_b5, ne_b2_b5, hnob5, hTg6, hv1_4, hTg7, hv1_25, trivial⟩
            exact fin_ rfl ⟨hfin_, rfl⟩
          · exact HOb.pureG ⟨rfl, trivial⟩ rfl rfl (fun _ => rfl) rfl (fun _ _ => d_move rfl)
          · refine ⟨trivial, fun ph_ hp_ H1 w hW => ?_⟩
            obtain rfl := memN_one hp_
            cases draw <;> exact ⟨some true, _, rfl, rfl, Det.ohc rfl hW (d_bool (c := true) (d_eqlB Tryd.underlying4 rfl rfl) rfl)⟩
          · exact HOb.pure trivial rfl rfl (fun _ _ => d_pick (b := true) rfl rfl)
          · exact HOb.pure trivial rfl rfl (fun _ _ => d_move rfl)
          · refine ⟨trivial, fun ph_ hp_ H1 w hW => ?_⟩
            obtain rfl := memN_one hp_
            replace hW : A1_5 H1 w := hW
            rw [hA1_5] at hW
            obtain ⟨hC, hib1, lob1, hb1, hib2, lob2, hb2, hown, hts, hnob2, hnob1, hib5, lob5, hb5, ne_b1_b5, ne_b2_b5, hnob5, hTg6, hv1_4, hTg7, hv1_25, _⟩ := hW
            refine ⟨(some true), _, rfl, rfl, Ok1.mono (ok_call c15 rfl (awake_calls _ (hT0 _ _ (hC.below hw0.size (by simp)) hw0))) ?_⟩
            rintro _ w' ⟨rfl, hg_⟩
            have hch_ : Ch [] _ w' := Gr.ch hg_
            have hC := hC.trans' hch_ (fun z hz => .inr (absurd hz (by simp)))
            have hib1 := Nat.lt_of_lt_of_le hib1 (hch_).size
            have hb1 := Ch.blk0 hch_ hb1 (by first | assumption | (simp; done) | (simp <;> omega))
            have hib2 := Nat.lt_of_lt_of_le hib2 (hch_).size
            have hb2 := Ch.blk0 hch_ hb2 (by first | assumption | (simp; done) | (simp <;> omega))
            have hown := Own.mv hown hch_ (fun b_ hb_ => by first | (simp; done) | (intro hm_; simp at hm_; subst hm_; contradiction))
            have hts : IsTs w' (b5 :: b2 :: b1 :: oblk lv) (((([pubOf (Tm.mk 1 1 [])]) ++ (bif draw then [Tm.mk 1 2 []] else [])) ++ (bif secret then [Tm.mk 1 1 []] else [])) ++ (bif ct then [Tm.mk 5 0 [Tm.mk 1 1 [], Tm.mk 1 2 []]] else [])) xs := IsTs.mv hch_ (by intro y hy; first | (simp at hy; done) | (simp at hy; subst hy; simp; done) | (simp [hy]; done)) (fun x hx => .inl hx) _ _ hts
            have hib5 := Nat.lt_of_lt_of_le hib5 (hch_).size
            have hb5 := Ch.blk0 hch_ hb5 (by first | assumption | (simp; done) | (simp <;> omega))
            have hTg6 : IsT w' (b5 :: b2 :: b1 :: oblk lv) (Tm.mk 4 0 [Tm.mk 1 1 [], Tm.mk 1 2 []]) [(Value.int .i64 4), (Value.int .i64 0), (Value.slice (some ⟨(blk (H1 4)), 0, none⟩) 2 2)] := IsT.mv hch_ (by intro y hy; first | (simp at hy; done) | (simp at hy; subst hy; simp; done) | (simp [hy]; done)) (fun x hx => .inl hx) _ _ hTg6
            have hTg7 : IsT w' (b5 :: b2 :: b1 :: oblk lv) (Tm.mk 5 0 [Tm.mk 1 1 [], Tm.mk 1 2 []]) [(Value.int .i64 5), (Value.int .i64 0), (Value.slice (some ⟨(blk (H1 25)), 0, none⟩) 2 2)] := IsT.mv hch_ (by intro y hy; first | (simp at hy; done) | (simp at hy; subst hy; simp; done) | (simp [hy]; done)) (fun x hx => .inl hx) _ _ hTg7
            have hfin_ : A1_6 (updV H1 42 (Value.bool true)) w' := by rw [hA1_6]; exact ⟨hC, hib1, lob1, hb1, hib2, lob2, hb2, hown, hts, hnob2, hnob1, hib5, lob5, hb5, ne_b1_b5, ne_b2_b5, hnob5, hTg6, hv1_4, hTg7, hv1_25, trivial⟩
            exact fin_ rfl ⟨hfin_, rfl⟩
          · exact HOb.pure trivial rfl rfl (fun _ _ => d_pick (b := true) rfl rfl)
          · exact HOb.pure trivial rfl rfl (fun _ _ => d_assign rfl)
        · intro ac w H1 hW hF
          replace hW : A1_6 H1 w := hW
          rw [hA1_6] at hW
          obtain ⟨hC, hib1, lob1, hb1, hib2, lob2, hb2, hown, hts, hnob2, hnob1, hib5, lob5, hb5, ne_b1_b5, ne_b2_b5, hnob5, hTg6, hv1_4, hTg7, hv1_25, _⟩ := hW
          clear hA1_0 A1_0 hA1_1 A1_1 hA1_2 A1_2 hA1_3 A1_3 hA1_4 A1_4 hA1_5 A1_5 hA1_6 A1_6
          have hF := hF.sub (L' := [(0, (Value.bool draw)), (1, (Value.bool secret)), (2, (Value.bool ct)), (3, (Value.bool kem)), (8, (Value.bool true)), (9, (Value.pointer (some ⟨b1, 0, none⟩))), (10, (Value.pointer (some ⟨b2, 0, none⟩))), (11, lv), (12, (Value.pointer (some ⟨b5, 0, none⟩))), (18, (Value.bool draw)), (23, (Value.bool secret)), (28, (Value.bool ct))]) ⟨rfl, rfl, rfl, rfl, rfl, rfl, rfl, rfl, rfl, rfl, rfl, rfl, trivial⟩
          refine then_n ?_
          refine wp_ret ?_
          refine body_ret hF (results1 Tryd.results4 (RV.tmp hF rfl)) ?_
          exact ⟨rfl, hC.gr⟩
      refine wp_if hF rfl (fun h => ?_) (fun h => ?_)
      · have hd := h
        clear h
        refine wp_region_lit ?_
        refine wl (d_move rfl) rfl hF (fun ac hF => ?_)
        refine wl (d_loadC Tryd.underlying26 rfl sz26 rfl ((At.of_blk hb1)) rfl) rfl hF (fun ac hF => ?_)
        refine wl (d_loadC Tryd.underlying26 rfl sz26 rfl ((At.of_blk hb2)) rfl) rfl hF (fun ac hF => ?_)
        have hX_ : ∀ x, x ∈ (b2 :: b1 :: oblk lv) → x < w.heap.size := by
          intro x hx
          simp only [List.mem_cons, List.not_mem_nil, or_false] at hx
          rcases hx with rfl | rfl | hx
          · exact hib2
          · exact hib1
          · exact (Own.lt hown x hx).2
        refine wlR (ok_call c18 rfl (two_calls (X := (b2 :: b1 :: oblk lv)) (a := Tm.mk 1 1 []) (b := Tm.mk 1 2 []) _ hX_ (isT_atom _ _ _) (isT_atom _ _ _))) rfl hF ?_
        rintro _ w ac ⟨g8, rfl, hTg8, hg_⟩ hF
        have hch_ : Ch [] _ w := Gr.ch hg_
        have hC := hC.trans' hch_ (fun z hz => .inr (absurd hz (by simp)))
        have hib1 := Nat.lt_of_lt_of_le hib1 (hch_).size
        have hb1 := Ch.blk0 hch_ hb1 (by first | assumption | (simp; done) | (simp <;> omega))
        have hib2 := Nat.lt_of_lt_of_le hib2 (hch_).size
        have hb2 := Ch.blk0 hch_ hb2 (by first | assumption | (simp; done) | (simp <;> omega))
        have hown := Own.mv hown hch_ (fun b_ hb_ => by first | (simp; done) | (intro hm_; simp at hm_; subst hm_; contradiction))
        have hts : IsTs w (b2 :: b1 :: oblk lv) ((([pubOf (Tm.mk 1 1 [])]) ++ (bif draw then [Tm.mk 1 2 []] else [])) ++ (bif secret then [Tm.mk 1 1 []] else [])) xs := IsTs.mv hch_ (by intro y hy; first | (simp at hy; done) | (simp at hy; subst hy; simp; done) | (simp [hy]; done)) (fun x hx => .inl hx) _ _ hts
        refine wlR (ok_buildSlice (cells := #[(Value.int .i64 5), (Value.int .i64 0), (Value.slice (some ⟨g8, 0, none⟩) 2 2)]) Tryd.underlying24 zz26 rfl (by decide) (by decide) (by exact fillT1)) rfl hF ?_
        rintro _ w ac ⟨b9, rfl, hnb_⟩ hF
        have hch_ : Ch [] _ w := hnb_.ch
        have lo_ := hnb_.lo hC.size
        have ne_b1_b9 := hnb_.gt hib1
        have ne_b2_b9 := hnb_.gt hib2
        have hC := hC.trans' hch_ (fun z hz => .inr (absurd hz (by simp)))
        have hib1 := Nat.lt_of_lt_of_le hib1 (hch_).size
        have hb1 := Ch.blk0 hch_ hb1 (by first | assumption | (simp; done) | (simp <;> omega))
        have hib2 := Nat.lt_of_lt_of_le hib2 (hch_).size
        have hb2 := Ch.blk0 hch_ hb2 (by first | assumption | (simp; done) | (simp <;> omega))
        have hown := Own.mv hown hch_ (fun b_ hb_ => by first | (simp; done) | (intro hm_; simp at hm_; subst hm_; contradiction))
        have hts : IsTs w (b2 :: b1 :: oblk lv) ((([pubOf (Tm.mk 1 1 [])]) ++ (bif draw then [Tm.mk 1 2 []] else [])) ++ (bif secret then [Tm.mk 1 1 []] else [])) xs := IsTs.mv hch_ (by intro y hy; first | (simp at hy; done) | (simp at hy; subst hy; simp; done) | (simp [hy]; done)) (fun x hx => .inl hx) _ _ hts
        have hTg8 : IsT w (b2 :: b1 :: oblk lv) (Tm.mk 5 0 [Tm.mk 1 1 [], Tm.mk 1 2 []]) [(Value.int .i64 5), (Value.int .i64 0), (Value.slice (some ⟨g8, 0, none⟩) 2 2)] := IsT.mv hch_ (by intro y hy; first | (simp at hy; done) | (simp at hy; subst hy; simp; done) | (simp [hy]; done)) (fun x hx => .inl hx) _ _ hTg8
        have hib9 : b9 < w.heap.size := hnb_.lt
        have lob9 : w0.heap.size ≤ b9 := lo_
        have hb9 : At w b9 0 [(Value.int .i64 5), (Value.int .i64 0), (Value.slice (some ⟨g8, 0, none⟩) 2 2)] := hnb_.at
        have ne_b1_b9 : b1 < b9 := ne_b1_b9
        have ne_b2_b9 : b2 < b9 := ne_b2_b9
        have hown0_ := hown
        refine wlR (ok_appendm (m := 3) (k := 1) (b := b9) (o := 0) (news := [(Value.int .i64 5), (Value.int .i64 0), (Value.slice (some ⟨g8, 0, none⟩) 2 2)]) Tryd.underlying24 ii26 rfl (by decide) rfl rfl hown rfl hb9 (IsT.cells1 hTg8) (by omega) (by unfold maxLen; omega) hC.size) rfl hF ?_
        rintro lv10 w ac ⟨hown, hch0_, hob⟩ hF
        have hch_ : Ch (oblk lv) _ w := hch0_
        have hxx_ : ∀ x, x ∈ (b2 :: b1 :: oblk lv10) → x ∈ (b2 :: b1 :: oblk lv) ∨ _ ≤ x := fun x hx => by
          simp only [List.mem_cons] at hx ⊢
          rcases hx with h_ | h_ | hx
          · exact .inl (by simp [h_])
          · exact .inl (by simp [h_])
          · rcases hob with hob | hob
            · rw [hob] at hx; exact .inl (by simp [hx])
            · rw [hob] at hx; simp at hx; exact .inr (Nat.le_of_eq hx.symm)
        have hnxb2_ := nin_ob hob hnob2 hib2
        have hnxb1_ := nin_ob hob hnob1 hib1
        have hC := hC.trans' hch_ (fun z hz => .inr ((Own.lt hown0_ z hz).1))
        have hib1 := Nat.lt_of_lt_of_le hib1 (hch_).size
        have hb1 := Ch.blk0 hch_ hb1 (by first | assumption | (simp; done) | (simp <;> omega))
        have hib2 := Nat.lt_of_lt_of_le hib2 (hch_).size
        have hb2 := Ch.blk0 hch_ hb2 (by first | assumption | (simp; done) | (simp <;> omega))
        have hts : IsTs w (b2 :: b1 :: oblk lv10) (((([pubOf (Tm.mk 1 1 [])]) ++ (bif draw then [Tm.mk 1 2 []] else [])) ++ (bif secret then [Tm.mk 1 1 []] else [])) ++ [Tm.mk 5 0 [Tm.mk 1 1 [], Tm.mk 1 2 []]]) (xs ++ [(Value.int .i64 5), (Value.int .i64 0), (Value.slice (some ⟨g8, 0, none⟩) 2 2)]) := (IsTs.mv hch_ (fun y hy => by simp [hy]) hxx_ _ _ hts).app (IsTs.one (IsT.mv hch_ (fun y hy => by simp [hy]) hxx_ _ _ hTg8))
        have hTg8 : IsT w (b2 :: b1 :: oblk lv10) (Tm.mk 5 0 [Tm.mk 1 1 [], Tm.mk 1 2 []]) [(Value.int .i64 5), (Value.int .i64 0), (Value.slice (some ⟨g8, 0, none⟩) 2 2)] := IsT.mv hch_ (fun y hy => by simp [hy]) hxx_ _ _ hTg8
        have hnob2 : b2 ∉ oblk lv10 := hnxb2_
        have hnob1 : b1 ∉ oblk lv10 := hnxb1_
        refine wl (d_assign rfl) rfl hF (fun ac hF => ?_)
        refine wl_nil ?_
        have hF := hF.sub (L' := [(0, (Value.bool draw)), (1, (Value.bool secret)), (2, (Value.bool ct)), (3, (Value.bool kem)), (8, (Value.bool false)), (9, (Value.pointer (some ⟨b1, 0, none⟩))), (10, (Value.pointer (some ⟨b2, 0, none⟩))), (11, lv10), (18, (Value.bool draw)), (23, (Value.bool secret)), (28, (Value.bool ct))]) ⟨rfl, rfl, rfl, rfl, rfl, rfl, rfl, rfl, rfl, rfl, rfl, trivial⟩
        refine then_n ?_
        exact ⟨_, _, hF.sub ⟨rfl, rfl, rfl, rfl, rfl, rfl, rfl, rfl, rfl, rfl, rfl, trivial⟩, (by rw [hd, cond_true, List.length_append]; exact Nat.add_le_add_right hln 1), ⟨hC, hib1, lob1, hb1, hib2, lob2, hb2, (by rw [hd, cond_true, List.length_append]; exact hown), (by rw [hd]; exact hts), hnob2, hnob1, trivial⟩⟩
      · have hd := h
        clear h
        refine wp_skip ?_
        refine then_n ?_
        exact ⟨_, _, hF.sub ⟨rfl, rfl, rfl, rfl, rfl, rfl, rfl, rfl, rfl, rfl, rfl, trivial⟩, (by rw [hd, cond_false, List.append_nil]; exact Nat.le_trans hln (by decide)), ⟨hC, hib1, lob1, hb1, hib2, lob2, hb2, (by rw [hd, cond_false, List.append_nil]; exact hown), (by rw [hd, cond_false, List.append_nil]; exact hts), hnob2, hnob1, trivial⟩⟩
    refine wp_if hF rfl (fun h => ?_) (fun h => ?_)
    · have hd := h
      clear h
      refine wp_region_lit ?_
      refine wl (d_move rfl) rfl hF (fun ac hF => ?_)
      refine wl (d_loadC Tryd.underlying26 rfl sz26 rfl ((At.of_blk hb1)) rfl) rfl hF (fun ac hF => ?_)
      refine wlR (ok_buildSlice (cells := #[(Value.int .i64 1), (Value.int .i64 1), (Value.slice none 0 0)]) Tryd.underlying24 zz26 rfl (by decide) (by decide) (by exact fillT1)) rfl hF ?_
      rintro _ w ac ⟨b11, rfl, hnb_⟩ hF
      have hch_ : Ch [] _ w := hnb_.ch
      have lo_ := hnb_.lo hC.size
      have ne_b1_b11 := hnb_.gt hib1
      have ne_b2_b11 := hnb_.gt hib2
      have hC := hC.trans' hch_ (fun z hz => .inr (absurd hz (by simp)))
      have hib1 := Nat.lt_of_lt_of_le hib1 (hch_).size
      have hb1 := Ch.blk0 hch_ hb1 (by first | assumption | (simp; done) | (simp <;> omega))
      have hib2 := Nat.lt_of_lt_of_le hib2 (hch_).size
      have hb2 := Ch.blk0 hch_ hb2 (by first | assumption | (simp; done) | (simp <;> omega))
      have hown := Own.mv hown hch_ (fun b_ hb_ => by first | (simp; done) | (intro hm_; simp at hm_; subst hm_; contradiction))
      have hts : IsTs w (b2 :: b1 :: oblk lv) (([pubOf (Tm.mk 1 1 [])]) ++ (bif draw then [Tm.mk 1 2 []] else [])) xs := IsTs.mv hch_ (by intro y hy; first | (simp at hy; done) | (simp at hy; subst hy; simp; done) | (simp [hy]; done)) (fun x hx => .inl hx) _ _ hts
      have hib11 : b11 < w.heap.size := hnb_.lt
      have lob11 : w0.heap.size ≤ b11 := lo_
      have hb11 : At w b11 0 [(Value.int .i64 1), (Value.int .i64 1), (Value.slice none 0 0)] := hnb_.at
      have ne_b1_b11 : b1 < b11 := ne_b1_b11
      have ne_b2_b11 : b2 < b11 := ne_b2_b11
      have hown0_ := hown
      refine wlR (ok_appendm (m := 3) (k := 1) (b := b11) (o := 0) (news := [(Value.int .i64 1), (Value.int .i64 1), (Value.slice none 0 0)]) Tryd.underlying24 ii26 rfl (by decide) rfl rfl hown rfl hb11 (IsT.cells1 (isT_atom w [] _)) (by omega) (by unfold maxLen; omega) hC.size) rfl hF ?_
      rintro lv12 w ac ⟨hown, hch0_, hob⟩ hF
      have hch_ : Ch (oblk lv) _ w := hch0_
      have hxx_ : ∀ x, x ∈ (b2 :: b1 :: oblk lv12) → x ∈ (b2 :: b1 :: oblk lv) ∨ _ ≤ x := fun x hx => by
        simp only [List.mem_cons] at hx ⊢
        rcases hx with h_ | h_ | hx
        · exact .inl (by simp [h_])
        · exact .inl (by simp [h_])
        · rcases hob with hob | hob
          · rw [hob] at hx; exact .inl (by simp [hx])
          · rw [hob] at hx; simp at hx; exact .inr (Nat.le_of_eq hx.symm)
      have hnxb2_ := nin_ob hob hnob2 hib2
      have hnxb1_ := nin_ob hob hnob1 hib1
      have hC := hC.trans' hch_ (fun z hz => .inr ((Own.lt hown0_ z hz).1))
      have hib1 := Nat.lt_of_lt_of_le hib1 (hch_).size
      have hb1 := Ch.blk0 hch_ hb1 (by first | assumption | (simp; done) | (simp <;> omega))
      have hib2 := Nat.lt_of_lt_of_le hib2 (hch_).size
      have hb2 := Ch.blk0 hch_ hb2 (by first | assumption | (simp; done) | (simp <;> omega))
      have hts : IsTs w (b2 :: b1 :: oblk lv12) ((([pubOf (Tm.mk 1 1 [])]) ++ (bif draw then [Tm.mk 1 2 []] else [])) ++ [Tm.mk 1 1 []]) (xs ++ [(Value.int .i64 1), (Value.int .i64 1), (Value.slice none 0 0)]) := (IsTs.mv hch_ (fun y hy => by simp [hy]) hxx_ _ _ hts).app (IsTs.one (isT_atom _ _ _))
      have hnob2 : b2 ∉ oblk lv12 := hnxb2_
      have hnob1 : b1 ∉ oblk lv12 := hnxb1_
      refine wl (d_assign rfl) rfl hF (fun ac hF => ?_)
      refine wl_nil ?_
      have hF := hF.sub (L' := [(0, (Value.bool draw)), (1, (Value.bool secret)), (2, (Value.bool ct)), (3, (Value.bool kem)), (8, (Value.bool false)), (9, (Value.pointer (some ⟨b1, 0, none⟩))), (10, (Value.pointer (some ⟨b2, 0, none⟩))), (11, lv12), (18, (Value.bool draw)), (23, (Value.bool secret))]) ⟨rfl, rfl, rfl, rfl, rfl, rfl, rfl, rfl, rfl, rfl, trivial⟩
      refine then_n ?_
      exact ⟨_, _, hF.sub ⟨rfl, rfl, rfl, rfl, rfl, rfl, rfl, rfl, rfl, rfl, trivial⟩, (by rw [hd, cond_true, List.length_append]; exact Nat.add_le_add_right hln 1), ⟨hC, hib1, lob1, hb1, hib2, lob2, hb2, (by rw [hd, cond_true, List.length_append]; exact hown), (by rw [hd]; exact hts), hnob2, hnob1, trivial⟩⟩
    · have hd := h
      clear h
      refine wp_skip ?_
      refine then_n ?_
      exact ⟨_, _, hF.sub ⟨rfl, rfl, rfl, rfl, rfl, rfl, rfl, rfl, rfl, rfl, trivial⟩, (by rw [hd, cond_false, List.append_nil]; exact Nat.le_trans hln (by decide)), ⟨hC, hib1, lob1, hb1, hib2, lob2, hb2, (by rw [hd, cond_false, List.append_nil]; exact hown), (by rw [hd, cond_false, List.append_nil]; exact hts), hnob2, hnob1, trivial⟩⟩
  refine wp_if hF rfl (fun h => ?_) (fun h => ?_)
  · have hd := h
    clear h
    refine wp_region_lit ?_
    refine wl (d_move rfl) rfl hF (fun ac hF => ?_)
    refine wl (d_loadC Tryd.underlying26 rfl sz26 rfl ((At.of_blk hb2)) rfl) rfl hF (fun ac hF => ?_)
    refine wlR (ok_buildSlice (cells := #[(Value.int .i64 1), (Value.int .i64 2), (Value.slice none 0 0)]) Tryd.underlying24 zz26 rfl (by decide) (by decide) (by exact fillT1)) rfl hF ?_
    rintro _ w ac ⟨b13, rfl, hnb_⟩ hF
    have hch_ : Ch [] _ w := hnb_.ch
    have lo_ := hnb_.lo hC.size
    have ne_b1_b13 := hnb_.gt hib1
    have ne_b2_b13 := hnb_.gt hib2
    have hC := hC.trans' hch_ (fun z hz => .inr (absurd hz (by simp)))
    have hib1 := Nat.lt_of_lt_of_le hib1 (hch_).size
    have hb1 := Ch.blk0 hch_ hb1 (by first | assumption | (simp; done) | (simp <;> omega))
    have hib2 := Nat.lt_of_lt_of_le hib2 (hch_).size
    have hb2 := Ch.blk0 hch_ hb2 (by first | assumption | (simp; done) | (simp <;> omega))
    have hib4 := Nat.lt_of_lt_of_le hib4 (hch_).size
    have hown := Own.mv hown hch_ (fun b_ hb_ => by first | (simp; done) | (intro hm_; simp at hm_; subst hm_; contradiction))
    have hts : IsTs w (b2 :: b1 :: oblk (Value.slice (some ⟨b4, 0, none⟩) 1 1)) ([pubOf (Tm.mk 1 1 [])]) ([(Value.int .i64 2), (Value.int .i64 0), (Value.slice (some ⟨g3, 0, none⟩) 1 1)]) := IsTs.mv hch_ (by intro y hy; first | (simp at hy; done) | (simp at hy; subst hy; simp; done) | (simp [hy]; done)) (fun x hx => .inl hx) _ _ hts
    have hib13 : b13 < w.heap.size := hnb_.lt
    have lob13 : w0.heap.size ≤ b13 := lo_
    have hb13 : At w b13 0 [(Value.int .i64 1), (Value.int .i64 2), (Value.slice none 0 0)] := hnb_.at
    have ne_b1_b13 : b1 < b13 := ne_b1_b13
    have ne_b2_b13 : b2 < b13 := ne_b2_b13
    have hown0_ := hown
    refine wlR (ok_appendm (m := 3) (k := 1) (b := b13) (o := 0) (news := [(Value.int .i64 1), (Value.int .i64 2), (Value.slice none 0 0)]) Tryd.underlying24 ii26 rfl (by decide) rfl rfl hown rfl hb13 (IsT.cells1 (isT_atom w [] _)) (by omega) (by unfold maxLen; omega) hC.size) rfl hF ?_
    rintro lv14 w ac ⟨hown, hch0_, hob⟩ hF
    have hch_ : Ch (oblk (Value.slice (some ⟨b4, 0, none⟩) 1 1)) _ w := hch0_
    have hxx_ : ∀ x, x ∈ (b2 :: b1 :: oblk lv14) → x ∈ (b2 :: b1 :: oblk (Value.slice (some ⟨b4, 0, none⟩) 1 1)) ∨ _ ≤ x := fun x hx => by
      simp only [List.mem_cons] at hx ⊢
      rcases hx with h_ | h_ | hx
      · exact .inl (by simp [h_])
      · exact .inl (by simp [h_])
      · rcases hob with hob | hob
        · rw [hob] at hx; exact .inl (by simp [hx])
        · rw [hob] at hx; simp at hx; exact .inr (Nat.le_of_eq hx.symm)
    have hnxb2_ := nin_ob hob hnob2 hib2
    have hnxb1_ := nin_ob hob hnob1 hib1
    have hC := hC.trans' hch_ (fun z hz => .inr ((Own.lt hown0_ z hz).1))
    have hib1 := Nat.lt_of_lt_of_le hib1 (hch_).size
    have hb1 := Ch.blk0 hch_ hb1 (by first | assumption | (simp; done) | (simp <;> omega))
    have hib2 := Nat.lt_of_lt_of_le hib2 (hch_).size
    have hb2 := Ch.blk0 hch_ hb2 (by first | assumption | (simp; done) | (simp <;> omega))
    have hib4 := Nat.lt_of_lt_of_le hib4 (hch_).size
    have hts : IsTs w (b2 :: b1 :: oblk lv14) (([pubOf (Tm.mk 1 1 [])]) ++ [Tm.mk 1 2 []]) (([(Value.int .i64 2), (Value.int .i64 0), (Value.slice (some ⟨g3, 0, none⟩) 1 1)]) ++ [(Value.int .i64 1), (Value.int .i64 2), (Value.slice none 0 0)]) := (IsTs.mv hch_ (fun y hy => by simp [hy]) hxx_ _ _ hts).app (IsTs.one (isT_atom _ _ _))
    have hnob2 : b2 ∉ oblk lv14 := hnxb2_
    have hnob1 : b1 ∉ oblk lv14 := hnxb1_
    refine wl (d_assign rfl) rfl hF (fun ac hF => ?_)
    refine wl_nil ?_
    have hF := hF.sub (L' := [(0, (Value.bool draw)), (1, (Value.bool secret)), (2, (Value.bool ct)), (3, (Value.bool kem)), (8, (Value.bool false)), (9, (Value.pointer (some ⟨b1, 0, none⟩))), (10, (Value.pointer (some ⟨b2, 0, none⟩))), (11, lv14), (18, (Value.bool draw))]) ⟨rfl, rfl, rfl, rfl, rfl, rfl, rfl, rfl, rfl, trivial⟩
    refine then_n ?_
    exact ⟨_, _, hF.sub ⟨rfl, rfl, rfl, rfl, rfl, rfl, rfl, rfl, rfl, trivial⟩, (by rw [hd]; simp), ⟨hC, hib1, lob1, hb1, hib2, lob2, hb2, (by rw [hd, cond_true, List.length_append]; exact hown), (by rw [hd]; exact hts), hnob2, hnob1, trivial⟩⟩
  · have hd := h
    clear h
    refine wp_skip ?_
    refine then_n ?_
    exact ⟨_, _, hF.sub ⟨rfl, rfl, rfl, rfl, rfl, rfl, rfl, rfl, rfl, trivial⟩, (by rw [hd]; simp), ⟨hC, hib1, lob1, hb1, hib2, lob2, hb2, (by rw [hd, cond_false, List.append_nil]; exact hown), (by rw [hd, cond_false, List.append_nil]; exact hts), hnob2, hnob1, trivial⟩⟩
end Go.Mi.Term
