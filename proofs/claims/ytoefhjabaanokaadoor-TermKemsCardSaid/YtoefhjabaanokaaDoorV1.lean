/- Walks: what the laws' own functions return. -/
import Derived.Test.YtoefhjabaanokaaDoorH12
namespace Go.Mi.Term
open Go.Mi Go.Proofs Go.RowKit
set_option linter.unusedVariables false
theorem pl26 (w : World) : ∀ fs, Tryd.prog.underlying 26 = some (.struct fs) → (fs.mapM fun f => (do pure (f.offset, ← sizeOf f.type) : Sem (Nat × Nat))).run Tryd.prog w = .ok #[(0, 1), (1, 1), (2, 1)] w := by
  intro fs h
  rw [Tryd.underlying26] at h
  cases h
  obtain ⟨i1, h1, e1⟩ := Option.map_eq_some_iff.1 sz3
  obtain ⟨i3, h3, e3⟩ := Option.map_eq_some_iff.1 sz24
  simp [sizeOf, typeInfo, h1, h3, e1, e3]
theorem pl31 (w : World) : ∀ fs, Tryd.prog.underlying 31 = some (.struct fs) → (fs.mapM fun f => (do pure (f.offset, ← sizeOf f.type) : Sem (Nat × Nat))).run Tryd.prog w = .ok #[(0, 1), (1, 1)] w := by
  intro fs h
  rw [Tryd.underlying31] at h
  cases h
  obtain ⟨i1, h1, e1⟩ := Option.map_eq_some_iff.1 sz4
  simp [sizeOf, typeInfo, h1, e1]
theorem fillT1 {z : Value} {a b : Int} {ad : Option Addr} {l c : Nat} : Instr.fill (fun i => some (i * 3, 3)) ((Array.range (1 * 3)).map (z.cells[· % z.cells.size]!)) [(0, .agg #[.int .i64 a, .int .i64 b, .slice ad l c])] = some #[.int .i64 a, .int .i64 b, .slice ad l c] := by
  simp [Instr.fill, Value.cells]
  apply Array.ext'
  simp [Array.toList_setIfInBounds, Array.toList_map, Array.toList_range, List.range_succ]
theorem fillT2 {z : Value} {a b a' b' : Int} {ad ad' : Option Addr} {l c l' c' : Nat} : Instr.fill (fun i => some (i * 3, 3)) ((Array.range (2 * 3)).map (z.cells[· % z.cells.size]!)) [(0, .agg #[.int .i64 a, .int .i64 b, .slice ad l c]), (1, .agg #[.int .i64 a', .int .i64 b', .slice ad' l' c'])] = some #[.int .i64 a, .int .i64 b, .slice ad l c, .int .i64 a', .int .i64 b', .slice ad' l' c'] := by
  simp [Instr.fill, Value.cells]
  apply Array.ext'
  simp [Array.toList_setIfInBounds, Array.toList_map, Array.toList_range, List.range_succ]

set_option maxRecDepth 100000 in
set_option maxHeartbeats 4000000 in
theorem atom_calls {n : Int} (w0 : World) : Calls Tryd.prog 16 (List.toArray [.int .i64 n]) w0 (Ret fun v w' => v = .agg #[.int .i64 1, .int .i64 n, .slice none 0 0] ∧ Gr w0 w') := by
  refine calls_of Tryd.func16 rfl Tryd.ntmps16 rfl fun ac hF => ?_
  have hC : Ch [] w0 w0 := Ch.refl _ _
  have hF := hF.sub (L' := [(0, (Value.int .i64 n))]) ⟨rfl, trivial⟩
  refine wp_seq ?_
  refine wp_region_lit ?_
  refine wlR (ok_alloc z26) rfl hF ?_
  rintro _ w ac ⟨b1, rfl, hnb_⟩ hF
  have hch_ : Ch [] _ w := hnb_.ch
  have lo_ := hnb_.lo hC.size
  have hC := hC.trans' hch_ (fun z hz => .inr (absurd hz (by simp)))
  have hib1 : b1 < w.heap.size := hnb_.lt
  have lob1 : w0.heap.size ≤ b1 := lo_
  have hb1 : w.heap[b1]? = some (.cells #[(Value.int .i64 0), (Value.int .i64 0), (Value.slice none 0 0)] 26 (0, 0)) := hnb_.blk
  refine wl_nil ?_
  have hF := hF.sub (L' := [(0, (Value.int .i64 n)), (2, (Value.pointer (some ⟨b1, 0, none⟩)))]) ⟨rfl, rfl, trivial⟩
  refine then_n ?_
  refine wp_seq ?_
  refine wp_region_lit ?_
  refine wl (d_move rfl) rfl hF (fun ac hF => ?_)
  refine wl (d_buildS (cells := #[(Value.int .i64 1), (Value.int .i64 n), (Value.slice none 0 0)]) Tryd.underlying26 z26 (fun w => pl26 w _ Tryd.underlying26) rfl (by simp [Instr.fill, Value.cells])) rfl hF (fun ac hF => ?_)
  refine wl0R (ok_storeA (c' := #[(Value.int .i64 1), (Value.int .i64 n), (Value.slice none 0 0)]) sz26 rfl rfl rfl (fun v hv => by simp at hv; rcases hv with rfl | rfl | rfl <;> rfl) hb1 rfl) hF ?_
  rintro w ac hu_ hF
  have hch_ : Ch [b1] _ w := hu_.ch
  have hC := hC.trans' hch_ (fun z hz => .inr ((by simp at hz; subst hz; assumption)))
  have hib1 := Nat.lt_of_lt_of_le hib1 (hch_).size
  have hb1 : w.heap[b1]? = some (.cells #[(Value.int .i64 1), (Value.int .i64 n), (Value.slice none 0 0)] 26 (0, 0)) := hu_.blk
  refine wl_nil ?_
  have hF := hF.sub (L' := [(0, (Value.int .i64 n)), (2, (Value.pointer (some ⟨b1, 0, none⟩)))]) ⟨rfl, rfl, trivial⟩
  refine then_n ?_
  refine wp_ret ?_
  refine body_ret hF (results1 Tryd.results16 (RV.cellC Tryd.underlying26 rfl sz26 hF rfl (At.of_blk hb1) rfl)) ?_
  exact ⟨rfl, hC.gr⟩

set_option maxRecDepth 100000 in
set_option maxHeartbeats 4000000 in
theorem two_calls {X : List Nat} {a b : Tm} {k k1 k2 n1 n2 : Int} {ad1 ad2 : Option Addr} {l1 l2 c1 c2 : Nat} (w0 : World) (hX : ∀ x, x ∈ X → x < w0.heap.size) (ha : IsT w0 X a [.int .i64 k1, .int .i64 n1, .slice ad1 l1 c1]) (hb : IsT w0 X b [.int .i64 k2, .int .i64 n2, .slice ad2 l2 c2]) : Calls Tryd.prog 18 (List.toArray [.int .i64 k, .agg #[.int .i64 k1, .int .i64 n1, .slice ad1 l1 c1], .agg #[.int .i64 k2, .int .i64 n2, .slice ad2 l2 c2]]) w0 (Ret fun v w' => ∃ g, v = .agg #[.int .i64 k, .int .i64 0, .slice (some ⟨g, 0, none⟩) 2 2] ∧ IsT w' X (.mk k 0 [a, b]) [.int .i64 k, .int .i64 0, .slice (some ⟨g, 0, none⟩) 2 2] ∧ Gr w0 w') := by
  refine calls_of Tryd.func18 rfl Tryd.ntmps18 rfl fun ac hF => ?_
  have hC : Ch [] w0 w0 := Ch.refl _ _
  have hF := hF.sub (L' := [(0, (Value.int .i64 k)), (1, (Value.agg #[(Value.int .i64 k1), (Value.int .i64 n1), (Value.slice ad1 l1 c1)])), (2, (Value.agg #[(Value.int .i64 k2), (Value.int .i64 n2), (Value.slice ad2 l2 c2)]))]) ⟨rfl, rfl, rfl, trivial⟩
  refine wp_seq ?_
  refine wp_region_lit ?_
  refine wlR (ok_box rfl) rfl hF ?_
  rintro _ w ac ⟨b1, rfl, hnb_⟩ hF
  have hch_ : Ch [] _ w := hnb_.ch
  have lo_ := hnb_.lo hC.size
  have hC := hC.trans' hch_ (fun z hz => .inr (absurd hz (by simp)))
  have hib1 : b1 < w.heap.size := hnb_.lt
  have lob1 : w0.heap.size ≤ b1 := lo_
  have hb1 : At w b1 0 [(Value.int .i64 k1), (Value.int .i64 n1), (Value.slice ad1 l1 c1)] := hnb_.at
  refine wlR (ok_box rfl) rfl hF ?_
  rintro _ w ac ⟨b2, rfl, hnb_⟩ hF
  have hch_ : Ch [] _ w := hnb_.ch
  have lo_ := hnb_.lo hC.size
  have ne_b1_b2 := hnb_.gt hib1
  have hC := hC.trans' hch_ (fun z hz => .inr (absurd hz (by simp)))
  have hib1 := Nat.lt_of_lt_of_le hib1 (hch_).size
  have hb1 := hb1.mv hch_ (by simp <;> omega)
  have hib2 : b2 < w.heap.size := hnb_.lt
  have lob2 : w0.heap.size ≤ b2 := lo_
  have hb2 : At w b2 0 [(Value.int .i64 k2), (Value.int .i64 n2), (Value.slice ad2 l2 c2)] := hnb_.at
  have ne_b1_b2 : b1 < b2 := ne_b1_b2
  refine wlR (ok_alloc z26) rfl hF ?_
  rintro _ w ac ⟨b3, rfl, hnb_⟩ hF
  have hch_ : Ch [] _ w := hnb_.ch
  have lo_ := hnb_.lo hC.size
  have ne_b1_b3 := hnb_.gt hib1
  have ne_b2_b3 := hnb_.gt hib2
  have hC := hC.trans' hch_ (fun z hz => .inr (absurd hz (by simp)))
  have hib1 := Nat.lt_of_lt_of_le hib1 (hch_).size
  have hb1 := hb1.mv hch_ (by simp <;> omega)
  have hib2 := Nat.lt_of_lt_of_le hib2 (hch_).size
  have hb2 := hb2.mv hch_ (by simp <;> omega)
  have hib3 : b3 < w.heap.size := hnb_.lt
  have lob3 : w0.heap.size ≤ b3 := lo_
  have hb3 : w.heap[b3]? = some (.cells #[(Value.int .i64 0), (Value.int .i64 0), (Value.slice none 0 0)] 26 (0, 0)) := hnb_.blk
  have ne_b1_b3 : b1 < b3 := ne_b1_b3
  have ne_b2_b3 : b2 < b3 := ne_b2_b3
  refine wl_nil ?_
  have hF := hF.sub (L' := [(0, (Value.int .i64 k)), (1, (Value.agg #[(Value.int .i64 k1), (Value.int .i64 n1), (Value.slice ad1 l1 c1)])), (2, (Value.agg #[(Value.int .i64 k2), (Value.int .i64 n2), (Value.slice ad2 l2 c2)])), (4, (Value.pointer (some ⟨b1, 0, none⟩))), (5, (Value.pointer (some ⟨b2, 0, none⟩))), (6, (Value.pointer (some ⟨b3, 0, none⟩)))]) ⟨rfl, rfl, rfl, rfl, rfl, rfl, trivial⟩
  refine then_n ?_
  refine wp_seq ?_
  refine wp_region_lit ?_
  refine wl (d_move rfl) rfl hF (fun ac hF => ?_)
  refine wl (d_loadC Tryd.underlying26 rfl sz26 rfl (hb1) rfl) rfl hF (fun ac hF => ?_)
  refine wl (d_loadC Tryd.underlying26 rfl sz26 rfl (hb2) rfl) rfl hF (fun ac hF => ?_)
  refine wlR (ok_buildSlice (cells := #[(Value.int .i64 k1), (Value.int .i64 n1), (Value.slice ad1 l1 c1), (Value.int .i64 k2), (Value.int .i64 n2), (Value.slice ad2 l2 c2)]) Tryd.underlying24 zz26 rfl (by decide) (by decide) (by exact fillT2)) rfl hF ?_
  rintro _ w ac ⟨b4, rfl, hnb_⟩ hF
  have hch_ : Ch [] _ w := hnb_.ch
  have lo_ := hnb_.lo hC.size
  have ne_b1_b4 := hnb_.gt hib1
  have ne_b2_b4 := hnb_.gt hib2
  have ne_b3_b4 := hnb_.gt hib3
  have hC := hC.trans' hch_ (fun z hz => .inr (absurd hz (by simp)))
  have hib1 := Nat.lt_of_lt_of_le hib1 (hch_).size
  have hb1 := hb1.mv hch_ (by simp <;> omega)
  have hib2 := Nat.lt_of_lt_of_le hib2 (hch_).size
  have hb2 := hb2.mv hch_ (by simp <;> omega)
  have hib3 := Nat.lt_of_lt_of_le hib3 (hch_).size
  have hb3 := Ch.blk0 hch_ hb3 (by simp <;> omega)
  have hib4 : b4 < w.heap.size := hnb_.lt
  have lob4 : w0.heap.size ≤ b4 := lo_
  have hb4 : At w b4 0 [(Value.int .i64 k1), (Value.int .i64 n1), (Value.slice ad1 l1 c1), (Value.int .i64 k2), (Value.int .i64 n2), (Value.slice ad2 l2 c2)] := hnb_.at
  have ne_b1_b4 : b1 < b4 := ne_b1_b4
  have ne_b2_b4 : b2 < b4 := ne_b2_b4
  have ne_b3_b4 : b3 < b4 := ne_b3_b4
  refine wl (d_buildS (cells := #[(Value.int .i64 k), (Value.int .i64 0), (Value.slice (some ⟨b4, 0, none⟩) 2 2)]) Tryd.underlying26 z26 (fun w => pl26 w _ Tryd.underlying26) rfl (by simp [Instr.fill, Value.cells])) rfl hF (fun ac hF => ?_)
  refine wl0R (ok_storeA (c' := #[(Value.int .i64 k), (Value.int .i64 0), (Value.slice (some ⟨b4, 0, none⟩) 2 2)]) sz26 rfl rfl rfl (fun v hv => by simp at hv; rcases hv with rfl | rfl | rfl <;> rfl) hb3 rfl) hF ?_
  rintro w ac hu_ hF
  have hch_ : Ch [b3] _ w := hu_.ch
  have hC := hC.trans' hch_ (fun z hz => .inr ((by simp at hz; subst hz; assumption)))
  have hib1 := Nat.lt_of_lt_of_le hib1 (hch_).size
  have hb1 := hb1.mv hch_ (by simp <;> omega)
  have hib2 := Nat.lt_of_lt_of_le hib2 (hch_).size
  have hb2 := hb2.mv hch_ (by simp <;> omega)
  have hib3 := Nat.lt_of_lt_of_le hib3 (hch_).size
  have hib4 := Nat.lt_of_lt_of_le hib4 (hch_).size
  have hb4 := hb4.mv hch_ (by simp <;> omega)
  have hb3 : w.heap[b3]? = some (.cells #[(Value.int .i64 k), (Value.int .i64 0), (Value.slice (some ⟨b4, 0, none⟩) 2 2)] 26 (0, 0)) := hu_.blk
  refine wl_nil ?_
  have hF := hF.sub (L' := [(0, (Value.int .i64 k)), (1, (Value.agg #[(Value.int .i64 k1), (Value.int .i64 n1), (Value.slice ad1 l1 c1)])), (2, (Value.agg #[(Value.int .i64 k2), (Value.int .i64 n2), (Value.slice ad2 l2 c2)])), (4, (Value.pointer (some ⟨b1, 0, none⟩))), (5, (Value.pointer (some ⟨b2, 0, none⟩))), (6, (Value.pointer (some ⟨b3, 0, none⟩)))]) ⟨rfl, rfl, rfl, rfl, rfl, rfl, trivial⟩
  refine then_n ?_
  refine wp_ret ?_
  refine body_ret hF (results1 Tryd.results18 (RV.cellC Tryd.underlying26 rfl sz26 hF rfl (At.of_blk hb3) rfl)) ?_
  exact ⟨b4, rfl, isT_mk (ks := [a, b]) rfl (fun hm => by have := hX _ hm; omega) hib4 hb4 (IsTs.two (IsT.mv hC (by simp) (fun x hx => .inl hx) _ _ ha) (IsT.mv hC (by simp) (fun x hx => .inl hx) _ _ hb)), hC.gr⟩

set_option maxRecDepth 100000 in
set_option maxHeartbeats 4000000 in
theorem pubL_calls {X : List Nat} {a : Tm} {k1 n1 : Int} {ad1 : Option Addr} {l1 c1 : Nat} (w0 : World) (hX : ∀ x, x ∈ X → x < w0.heap.size) (ha : IsT w0 X a [.int .i64 k1, .int .i64 n1, .slice ad1 l1 c1]) : Calls Tryd.prog 20 (List.toArray [.agg #[.int .i64 k1, .int .i64 n1, .slice ad1 l1 c1]]) w0 (Ret fun v w' => ∃ g, v = .agg #[.int .i64 2, .int .i64 0, .slice (some ⟨g, 0, none⟩) 1 1] ∧ IsT w' X (pubOf a) [.int .i64 2, .int .i64 0, .slice (some ⟨g, 0, none⟩) 1 1] ∧ Gr w0 w') := by
  refine calls_of Tryd.func20 rfl Tryd.ntmps20 rfl fun ac hF => ?_
  have hC : Ch [] w0 w0 := Ch.refl _ _
  have hF := hF.sub (L' := [(0, (Value.agg #[(Value.int .i64 k1), (Value.int .i64 n1), (Value.slice ad1 l1 c1)]))]) ⟨rfl, trivial⟩
  refine wp_seq ?_
  refine wp_region_lit ?_
  refine wlR (ok_box rfl) rfl hF ?_
  rintro _ w ac ⟨b1, rfl, hnb_⟩ hF
  have hch_ : Ch [] _ w := hnb_.ch
  have lo_ := hnb_.lo hC.size
  have hC := hC.trans' hch_ (fun z hz => .inr (absurd hz (by simp)))
  have hib1 : b1 < w.heap.size := hnb_.lt
  have lob1 : w0.heap.size ≤ b1 := lo_
  have hb1 : At w b1 0 [(Value.int .i64 k1), (Value.int .i64 n1), (Value.slice ad1 l1 c1)] := hnb_.at
  refine wlR (ok_alloc z26) rfl hF ?_
  rintro _ w ac ⟨b2, rfl, hnb_⟩ hF
  have hch_ : Ch [] _ w := hnb_.ch
  have lo_ := hnb_.lo hC.size
  have ne_b1_b2 := hnb_.gt hib1
  have hC := hC.trans' hch_ (fun z hz => .inr (absurd hz (by simp)))
  have hib1 := Nat.lt_of_lt_of_le hib1 (hch_).size
  have hb1 := hb1.mv hch_ (by simp <;> omega)
  have hib2 : b2 < w.heap.size := hnb_.lt
  have lob2 : w0.heap.size ≤ b2 := lo_
  have hb2 : w.heap[b2]? = some (.cells #[(Value.int .i64 0), (Value.int .i64 0), (Value.slice none 0 0)] 26 (0, 0)) := hnb_.blk
  have ne_b1_b2 : b1 < b2 := ne_b1_b2
  refine wl_nil ?_
  have hF := hF.sub (L' := [(0, (Value.agg #[(Value.int .i64 k1), (Value.int .i64 n1), (Value.slice ad1 l1 c1)])), (1, (Value.pointer (some ⟨b1, 0, none⟩))), (2, (Value.pointer (some ⟨b2, 0, none⟩)))]) ⟨rfl, rfl, rfl, trivial⟩
  refine then_n ?_
  refine wp_seq ?_
  refine wp_region_lit ?_
  refine wl (d_loadC Tryd.underlying26 rfl sz26 rfl (hb1) rfl) rfl hF (fun ac hF => ?_)
  refine wlR (ok_buildSlice (cells := #[(Value.int .i64 k1), (Value.int .i64 n1), (Value.slice ad1 l1 c1)]) Tryd.underlying24 zz26 rfl (by decide) (by decide) (by exact fillT1)) rfl hF ?_
  rintro _ w ac ⟨b3, rfl, hnb_⟩ hF
  have hch_ : Ch [] _ w := hnb_.ch
  have lo_ := hnb_.lo hC.size
  have ne_b1_b3 := hnb_.gt hib1
  have ne_b2_b3 := hnb_.gt hib2
  have hC := hC.trans' hch_ (fun z hz => .inr (absurd hz (by simp)))
  have hib1 := Nat.lt_of_lt_of_le hib1 (hch_).size
  have hb1 := hb1.mv hch_ (by simp <;> omega)
  have hib2 := Nat.lt_of_lt_of_le hib2 (hch_).size
  have hb2 := Ch.blk0 hch_ hb2 (by simp <;> omega)
  have hib3 : b3 < w.heap.size := hnb_.lt
  have lob3 : w0.heap.size ≤ b3 := lo_
  have hb3 : At w b3 0 [(Value.int .i64 k1), (Value.int .i64 n1), (Value.slice ad1 l1 c1)] := hnb_.at
  have ne_b1_b3 : b1 < b3 := ne_b1_b3
  have ne_b2_b3 : b2 < b3 := ne_b2_b3
  refine wl (d_buildS (cells := #[(Value.int .i64 2), (Value.int .i64 0), (Value.slice (some ⟨b3, 0, none⟩) 1 1)]) Tryd.underlying26 z26 (fun w => pl26 w _ Tryd.underlying26) rfl (by simp [Instr.fill, Value.cells])) rfl hF (fun ac hF => ?_)
  refine wl0R (ok_storeA (c' := #[(Value.int .i64 2), (Value.int .i64 0), (Value.slice (some ⟨b3, 0, none⟩) 1 1)]) sz26 rfl rfl rfl (fun v hv => by simp at hv; rcases hv with rfl | rfl | rfl <;> rfl) hb2 rfl) hF ?_
  rintro w ac hu_ hF
  have hch_ : Ch [b2] _ w := hu_.ch
  have hC := hC.trans' hch_ (fun z hz => .inr ((by simp at hz; subst hz; assumption)))
  have hib1 := Nat.lt_of_lt_of_le hib1 (hch_).size
  have hb1 := hb1.mv hch_ (by simp <;> omega)
  have hib2 := Nat.lt_of_lt_of_le hib2 (hch_).size
  have hib3 := Nat.lt_of_lt_of_le hib3 (hch_).size
  have hb3 := hb3.mv hch_ (by simp <;> omega)
  have hb2 : w.heap[b2]? = some (.cells #[(Value.int .i64 2), (Value.int .i64 0), (Value.slice (some ⟨b3, 0, none⟩) 1 1)] 26 (0, 0)) := hu_.blk
  refine wl_nil ?_
  have hF := hF.sub (L' := [(0, (Value.agg #[(Value.int .i64 k1), (Value.int .i64 n1), (Value.slice ad1 l1 c1)])), (1, (Value.pointer (some ⟨b1, 0, none⟩))), (2, (Value.pointer (some ⟨b2, 0, none⟩)))]) ⟨rfl, rfl, rfl, trivial⟩
  refine then_n ?_
  refine wp_ret ?_
  refine body_ret hF (results1 Tryd.results20 (RV.cellC Tryd.underlying26 rfl sz26 hF rfl (At.of_blk hb2) rfl)) ?_
  exact ⟨b3, rfl, isT_mk (ks := [a]) rfl (fun hm => by have := hX _ hm; omega) hib3 hb3 (IsTs.one (IsT.mv hC (by simp) (fun x hx => .inl hx) _ _ ha)), hC.gr⟩
end Go.Mi.Term
