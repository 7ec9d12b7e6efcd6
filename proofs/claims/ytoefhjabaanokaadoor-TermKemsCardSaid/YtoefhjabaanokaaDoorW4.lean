/- Walks: what functions of term return. -/
import Derived.Test.YtoefhjabaanokaaDoorTf
import Derived.Test.YtoefhjabaanokaaDoorW3
namespace Go.Mi.Term
open Go.Mi Go.Proofs Go.RowKit
set_option maxRecDepth 100000 in
theorem word1_calls (w0 : World) : Calls Tryd.prog 97 (List.toArray [.int .i64 1]) w0 (Ret fun v w' => v = .string (bs (word 1)) ∧ Gr w0 w') := by
  refine calls_of Tryd.func97 rfl Tryd.ntmps97 rfl fun a hF => ?_
  have hM := Mem.start w0
  have hF := hF.sub (L' := [(0, (Value.int .i64 1))]) ⟨rfl, trivial⟩
  refine wp_seq ?_
  refine wp_region_lit ?_
  refine wl (d_assign rfl) rfl hF (fun a hF => ?_)
  refine wl_nil ?_
  have hF := hF.sub (L' := [(0, (Value.int .i64 1)), (2, (Value.string (bs [])))]) ⟨rfl, rfl, trivial⟩
  refine then_n ?_
  refine wp_seq ?_
  refine wp_region_lit ?_
  refine wlR (ok_buildSlice (cells := #[(Value.string (bs [])), (Value.string (bs [110])), (Value.string (bs [112, 117, 98])), (Value.string (bs [100, 104])), (Value.string (bs [107, 101, 109])), (Value.string (bs [99, 116])), (Value.string (bs [104])), (Value.string (bs [101, 110, 99])), (Value.string (bs [115, 105, 103])), (Value.string (bs [112, 97, 105, 114]))]) Tryd.underlying132 zz9 rfl (by decide) (by decide) (by kernel_rfl)) rfl hF ?_
  rintro _ w a ⟨b1, rfl, hnb_⟩ hF
  have hM : Mem w0 w [(b1, #[(Value.string (bs [])), (Value.string (bs [110])), (Value.string (bs [112, 117, 98])), (Value.string (bs [100, 104])), (Value.string (bs [107, 101, 109])), (Value.string (bs [99, 116])), (Value.string (bs [104])), (Value.string (bs [101, 110, 99])), (Value.string (bs [115, 105, 103])), (Value.string (bs [112, 97, 105, 114]))], 9)] := hM.alloc hnb_
  refine wl (d_assign rfl) rfl hF (fun a hF => ?_)
  refine wl_nil ?_
  have hF := hF.sub (L' := [(0, (Value.int .i64 1)), (2, (Value.string (bs []))), (3, (Value.slice (some ⟨b1, 0, none⟩) 10 10))]) ⟨rfl, rfl, rfl, trivial⟩
  refine then_n ?_
  refine wp_seq ?_
  refine wp_region_lit ?_
  refine wl (d_move rfl) rfl hF (fun a hF => ?_)
  refine wl (d_move rfl) rfl hF (fun a hF => ?_)
  refine wl (d_ixS0 (j := 1) Tryd.underlying132 sz9 rfl rfl rfl (by omega)) rfl hF (fun a hF => ?_)
  refine wl (d_load1 Tryd.underlying9 rfl rfl (hM.cell 0 rfl rfl)) rfl hF (fun a hF => ?_)
  refine wl (d_assign rfl) rfl hF (fun a hF => ?_)
  refine wl_nil ?_
  have hF := hF.sub (L' := [(0, (Value.int .i64 1)), (2, (Value.string (bs [110]))), (3, (Value.slice (some ⟨b1, 0, none⟩) 10 10))]) ⟨rfl, rfl, rfl, trivial⟩
  refine then_n ?_
  refine wp_ret ?_
  refine body_ret hF (results1 Tryd.results97 (RV.tmp hF rfl)) ?_
  exact ⟨rfl, hM.below⟩

set_option maxRecDepth 100000 in
theorem word2_calls (w0 : World) : Calls Tryd.prog 97 (List.toArray [.int .i64 2]) w0 (Ret fun v w' => v = .string (bs (word 2)) ∧ Gr w0 w') := by
  refine calls_of Tryd.func97 rfl Tryd.ntmps97 rfl fun a hF => ?_
  have hM := Mem.start w0
  have hF := hF.sub (L' := [(0, (Value.int .i64 2))]) ⟨rfl, trivial⟩
  refine wp_seq ?_
  refine wp_region_lit ?_
  refine wl (d_assign rfl) rfl hF (fun a hF => ?_)
  refine wl_nil ?_
  have hF := hF.sub (L' := [(0, (Value.int .i64 2)), (2, (Value.string (bs [])))]) ⟨rfl, rfl, trivial⟩
  refine then_n ?_
  refine wp_seq ?_
  refine wp_region_lit ?_
  refine wlR (ok_buildSlice (cells := #[(Value.string (bs [])), (Value.string (bs [110])), (Value.string (bs [112, 117, 98])), (Value.string (bs [100, 104])), (Value.string (bs [107, 101, 109])), (Value.string (bs [99, 116])), (Value.string (bs [104])), (Value.string (bs [101, 110, 99])), (Value.string (bs [115, 105, 103])), (Value.string (bs [112, 97, 105, 114]))]) Tryd.underlying132 zz9 rfl (by decide) (by decide) (by kernel_rfl)) rfl hF ?_
  rintro _ w a ⟨b1, rfl, hnb_⟩ hF
  have hM : Mem w0 w [(b1, #[(Value.string (bs [])), (Value.string (bs [110])), (Value.string (bs [112, 117, 98])), (Value.string (bs [100, 104])), (Value.string (bs [107, 101, 109])), (Value.string (bs [99, 116])), (Value.string (bs [104])), (Value.string (bs [101, 110, 99])), (Value.string (bs [115, 105, 103])), (Value.string (bs [112, 97, 105, 114]))], 9)] := hM.alloc hnb_
  refine wl (d_assign rfl) rfl hF (fun a hF => ?_)
  refine wl_nil ?_
  have hF := hF.sub (L' := [(0, (Value.int .i64 2)), (2, (Value.string (bs []))), (3, (Value.slice (some ⟨b1, 0, none⟩) 10 10))]) ⟨rfl, rfl, rfl, trivial⟩
  refine then_n ?_
  refine wp_seq ?_
  refine wp_region_lit ?_
  refine wl (d_move rfl) rfl hF (fun a hF => ?_)
  refine wl (d_move rfl) rfl hF (fun a hF => ?_)
  refine wl (d_ixS0 (j := 2) Tryd.underlying132 sz9 rfl rfl rfl (by omega)) rfl hF (fun a hF => ?_)
  refine wl (d_load1 Tryd.underlying9 rfl rfl (hM.cell 0 rfl rfl)) rfl hF (fun a hF => ?_)
  refine wl (d_assign rfl) rfl hF (fun a hF => ?_)
  refine wl_nil ?_
  have hF := hF.sub (L' := [(0, (Value.int .i64 2)), (2, (Value.string (bs [112, 117, 98]))), (3, (Value.slice (some ⟨b1, 0, none⟩) 10 10))]) ⟨rfl, rfl, rfl, trivial⟩
  refine then_n ?_
  refine wp_ret ?_
  refine body_ret hF (results1 Tryd.results97 (RV.tmp hF rfl)) ?_
  exact ⟨rfl, hM.below⟩

set_option maxRecDepth 100000 in
theorem word3_calls (w0 : World) : Calls Tryd.prog 97 (List.toArray [.int .i64 3]) w0 (Ret fun v w' => v = .string (bs (word 3)) ∧ Gr w0 w') := by
  refine calls_of Tryd.func97 rfl Tryd.ntmps97 rfl fun a hF => ?_
  have hM := Mem.start w0
  have hF := hF.sub (L' := [(0, (Value.int .i64 3))]) ⟨rfl, trivial⟩
  refine wp_seq ?_
  refine wp_region_lit ?_
  refine wl (d_assign rfl) rfl hF (fun a hF => ?_)
  refine wl_nil ?_
  have hF := hF.sub (L' := [(0, (Value.int .i64 3)), (2, (Value.string (bs [])))]) ⟨rfl, rfl, trivial⟩
  refine then_n ?_
  refine wp_seq ?_
  refine wp_region_lit ?_
  refine wlR (ok_buildSlice (cells := #[(Value.string (bs [])), (Value.string (bs [110])), (Value.string (bs [112, 117, 98])), (Value.string (bs [100, 104])), (Value.string (bs [107, 101, 109])), (Value.string (bs [99, 116])), (Value.string (bs [104])), (Value.string (bs [101, 110, 99])), (Value.string (bs [115, 105, 103])), (Value.string (bs [112, 97, 105, 114]))]) Tryd.underlying132 zz9 rfl (by decide) (by decide) (by kernel_rfl)) rfl hF ?_
  rintro _ w a ⟨b1, rfl, hnb_⟩ hF
  have hM : Mem w0 w [(b1, #[(Value.string (bs [])), (Value.string (bs [110])), (Value.string (bs [112, 117, 98])), (Value.string (bs [100, 104])), (Value.string (bs [107, 101, 109])), (Value.string (bs [99, 116])), (Value.string (bs [104])), (Value.string (bs [101, 110, 99])), (Value.string (bs [115, 105, 103])), (Value.string (bs [112, 97, 105, 114]))], 9)] := hM.alloc hnb_
  refine wl (d_assign rfl) rfl hF (fun a hF => ?_)
  refine wl_nil ?_
  have hF := hF.sub (L' := [(0, (Value.int .i64 3)), (2, (Value.string (bs []))), (3, (Value.slice (some ⟨b1, 0, none⟩) 10 10))]) ⟨rfl, rfl, rfl, trivial⟩
  refine then_n ?_
  refine wp_seq ?_
  refine wp_region_lit ?_
  refine wl (d_move rfl) rfl hF (fun a hF => ?_)
  refine wl (d_move rfl) rfl hF (fun a hF => ?_)
  refine wl (d_ixS0 (j := 3) Tryd.underlying132 sz9 rfl rfl rfl (by omega)) rfl hF (fun a hF => ?_)
  refine wl (d_load1 Tryd.underlying9 rfl rfl (hM.cell 0 rfl rfl)) rfl hF (fun a hF => ?_)
  refine wl (d_assign rfl) rfl hF (fun a hF => ?_)
  refine wl_nil ?_
  have hF := hF.sub (L' := [(0, (Value.int .i64 3)), (2, (Value.string (bs [100, 104]))), (3, (Value.slice (some ⟨b1, 0, none⟩) 10 10))]) ⟨rfl, rfl, rfl, trivial⟩
  refine then_n ?_
  refine wp_ret ?_
  refine body_ret hF (results1 Tryd.results97 (RV.tmp hF rfl)) ?_
  exact ⟨rfl, hM.below⟩

set_option maxRecDepth 100000 in
theorem word4_calls (w0 : World) : Calls Tryd.prog 97 (List.toArray [.int .i64 4]) w0 (Ret fun v w' => v = .string (bs (word 4)) ∧ Gr w0 w') := by
  refine calls_of Tryd.func97 rfl Tryd.ntmps97 rfl fun a hF => ?_
  have hM := Mem.start w0
  have hF := hF.sub (L' := [(0, (Value.int .i64 4))]) ⟨rfl, trivial⟩
  refine wp_seq ?_
  refine wp_region_lit ?_
  refine wl (d_assign rfl) rfl hF (fun a hF => ?_)
  refine wl_nil ?_
  have hF := hF.sub (L' := [(0, (Value.int .i64 4)), (2, (Value.string (bs [])))]) ⟨rfl, rfl, trivial⟩
  refine then_n ?_
  refine wp_seq ?_
  refine wp_region_lit ?_
  refine wlR (ok_buildSlice (cells := #[(Value.string (bs [])), (Value.string (bs [110])), (Value.string (bs [112, 117, 98])), (Value.string (bs [100, 104])), (Value.string (bs [107, 101, 109])), (Value.string (bs [99, 116])), (Value.string (bs [104])), (Value.string (bs [101, 110, 99])), (Value.string (bs [115, 105, 103])), (Value.string (bs [112, 97, 105, 114]))]) Tryd.underlying132 zz9 rfl (by decide) (by decide) (by kernel_rfl)) rfl hF ?_
  rintro _ w a ⟨b1, rfl, hnb_⟩ hF
  have hM : Mem w0 w [(b1, #[(Value.string (bs [])), (Value.string (bs [110])), (Value.string (bs [112, 117, 98])), (Value.string (bs [100, 104])), (Value.string (bs [107, 101, 109])), (Value.string (bs [99, 116])), (Value.string (bs [104])), (Value.string (bs [101, 110, 99])), (Value.string (bs [115, 105, 103])), (Value.string (bs [112, 97, 105, 114]))], 9)] := hM.alloc hnb_
  refine wl (d_assign rfl) rfl hF (fun a hF => ?_)
  refine wl_nil ?_
  have hF := hF.sub (L' := [(0, (Value.int .i64 4)), (2, (Value.string (bs []))), (3, (Value.slice (some ⟨b1, 0, none⟩) 10 10))]) ⟨rfl, rfl, rfl, trivial⟩
  refine then_n ?_
  refine wp_seq ?_
  refine wp_region_lit ?_
  refine wl (d_move rfl) rfl hF (fun a hF => ?_)
  refine wl (d_move rfl) rfl hF (fun a hF => ?_)
  refine wl (d_ixS0 (j := 4) Tryd.underlying132 sz9 rfl rfl rfl (by omega)) rfl hF (fun a hF => ?_)
  refine wl (d_load1 Tryd.underlying9 rfl rfl (hM.cell 0 rfl rfl)) rfl hF (fun a hF => ?_)
  refine wl (d_assign rfl) rfl hF (fun a hF => ?_)
  refine wl_nil ?_
  have hF := hF.sub (L' := [(0, (Value.int .i64 4)), (2, (Value.string (bs [107, 101, 109]))), (3, (Value.slice (some ⟨b1, 0, none⟩) 10 10))]) ⟨rfl, rfl, rfl, trivial⟩
  refine then_n ?_
  refine wp_ret ?_
  refine body_ret hF (results1 Tryd.results97 (RV.tmp hF rfl)) ?_
  exact ⟨rfl, hM.below⟩

set_option maxRecDepth 100000 in
theorem word5_calls (w0 : World) : Calls Tryd.prog 97 (List.toArray [.int .i64 5]) w0 (Ret fun v w' => v = .string (bs (word 5)) ∧ Gr w0 w') := by
  refine calls_of Tryd.func97 rfl Tryd.ntmps97 rfl fun a hF => ?_
  have hM := Mem.start w0
  have hF := hF.sub (L' := [(0, (Value.int .i64 5))]) ⟨rfl, trivial⟩
  refine wp_seq ?_
  refine wp_region_lit ?_
  refine wl (d_assign rfl) rfl hF (fun a hF => ?_)
  refine wl_nil ?_
  have hF := hF.sub (L' := [(0, (Value.int .i64 5)), (2, (Value.string (bs [])))]) ⟨rfl, rfl, trivial⟩
  refine then_n ?_
  refine wp_seq ?_
  refine wp_region_lit ?_
  refine wlR (ok_buildSlice (cells := #[(Value.string (bs [])), (Value.string (bs [110])), (Value.string (bs [112, 117, 98])), (Value.string (bs [100, 104])), (Value.string (bs [107, 101, 109])), (Value.string (bs [99, 116])), (Value.string (bs [104])), (Value.string (bs [101, 110, 99])), (Value.string (bs [115, 105, 103])), (Value.string (bs [112, 97, 105, 114]))]) Tryd.underlying132 zz9 rfl (by decide) (by decide) (by kernel_rfl)) rfl hF ?_
  rintro _ w a ⟨b1, rfl, hnb_⟩ hF
  have hM : Mem w0 w [(b1, #[(Value.string (bs [])), (Value.string (bs [110])), (Value.string (bs [112, 117, 98])), (Value.string (bs [100, 104])), (Value.string (bs [107, 101, 109])), (Value.string (bs [99, 116])), (Value.string (bs [104])), (Value.string (bs [101, 110, 99])), (Value.string (bs [115, 105, 103])), (Value.string (bs [112, 97, 105, 114]))], 9)] := hM.alloc hnb_
  refine wl (d_assign rfl) rfl hF (fun a hF => ?_)
  refine wl_nil ?_
  have hF := hF.sub (L' := [(0, (Value.int .i64 5)), (2, (Value.string (bs []))), (3, (Value.slice (some ⟨b1, 0, none⟩) 10 10))]) ⟨rfl, rfl, rfl, trivial⟩
  refine then_n ?_
  refine wp_seq ?_
  refine wp_region_lit ?_
  refine wl (d_move rfl) rfl hF (fun a hF => ?_)
  refine wl (d_move rfl) rfl hF (fun a hF => ?_)
  refine wl (d_ixS0 (j := 5) Tryd.underlying132 sz9 rfl rfl rfl (by omega)) rfl hF (fun a hF => ?_)
  refine wl (d_load1 Tryd.underlying9 rfl rfl (hM.cell 0 rfl rfl)) rfl hF (fun a hF => ?_)
  refine wl (d_assign rfl) rfl hF (fun a hF => ?_)
  refine wl_nil ?_
  have hF := hF.sub (L' := [(0, (Value.int .i64 5)), (2, (Value.string (bs [99, 116]))), (3, (Value.slice (some ⟨b1, 0, none⟩) 10 10))]) ⟨rfl, rfl, rfl, trivial⟩
  refine then_n ?_
  refine wp_ret ?_
  refine body_ret hF (results1 Tryd.results97 (RV.tmp hF rfl)) ?_
  exact ⟨rfl, hM.below⟩

set_option maxRecDepth 100000 in
theorem word6_calls (w0 : World) : Calls Tryd.prog 97 (List.toArray [.int .i64 6]) w0 (Ret fun v w' => v = .string (bs (word 6)) ∧ Gr w0 w') := by
  refine calls_of Tryd.func97 rfl Tryd.ntmps97 rfl fun a hF => ?_
  have hM := Mem.start w0
  have hF := hF.sub (L' := [(0, (Value.int .i64 6))]) ⟨rfl, trivial⟩
  refine wp_seq ?_
  refine wp_region_lit ?_
  refine wl (d_assign rfl) rfl hF (fun a hF => ?_)
  refine wl_nil ?_
  have hF := hF.sub (L' := [(0, (Value.int .i64 6)), (2, (Value.string (bs [])))]) ⟨rfl, rfl, trivial⟩
  refine then_n ?_
  refine wp_seq ?_
  refine wp_region_lit ?_
  refine wlR (ok_buildSlice (cells := #[(Value.string (bs [])), (Value.string (bs [110])), (Value.string (bs [112, 117, 98])), (Value.string (bs [100, 104])), (Value.string (bs [107, 101, 109])), (Value.string (bs [99, 116])), (Value.string (bs [104])), (Value.string (bs [101, 110, 99])), (Value.string (bs [115, 105, 103])), (Value.string (bs [112, 97, 105, 114]))]) Tryd.underlying132 zz9 rfl (by decide) (by decide) (by kernel_rfl)) rfl hF ?_
  rintro _ w a ⟨b1, rfl, hnb_⟩ hF
  have hM : Mem w0 w [(b1, #[(Value.string (bs [])), (Value.string (bs [110])), (Value.string (bs [112, 117, 98])), (Value.string (bs [100, 104])), (Value.string (bs [107, 101, 109])), (Value.string (bs [99, 116])), (Value.string (bs [104])), (Value.string (bs [101, 110, 99])), (Value.string (bs [115, 105, 103])), (Value.string (bs [112, 97, 105, 114]))], 9)] := hM.alloc hnb_
  refine wl (d_assign rfl) rfl hF (fun a hF => ?_)
  refine wl_nil ?_
  have hF := hF.sub (L' := [(0, (Value.int .i64 6)), (2, (Value.string (bs []))), (3, (Value.slice (some ⟨b1, 0, none⟩) 10 10))]) ⟨rfl, rfl, rfl, trivial⟩
  refine then_n ?_
  refine wp_seq ?_
  refine wp_region_lit ?_
  refine wl (d_move rfl) rfl hF (fun a hF => ?_)
  refine wl (d_move rfl) rfl hF (fun a hF => ?_)
  refine wl (d_ixS0 (j := 6) Tryd.underlying132 sz9 rfl rfl rfl (by omega)) rfl hF (fun a hF => ?_)
  refine wl (d_load1 Tryd.underlying9 rfl rfl (hM.cell 0 rfl rfl)) rfl hF (fun a hF => ?_)
  refine wl (d_assign rfl) rfl hF (fun a hF => ?_)
  refine wl_nil ?_
  have hF := hF.sub (L' := [(0, (Value.int .i64 6)), (2, (Value.string (bs [104]))), (3, (Value.slice (some ⟨b1, 0, none⟩) 10 10))]) ⟨rfl, rfl, rfl, trivial⟩
  refine then_n ?_
  refine wp_ret ?_
  refine body_ret hF (results1 Tryd.results97 (RV.tmp hF rfl)) ?_
  exact ⟨rfl, hM.below⟩

set_option maxRecDepth 100000 in
theorem word7_calls (w0 : World) : Calls Tryd.prog 97 (List.toArray [.int .i64 7]) w0 (Ret fun v w' => v = .string (bs (word 7)) ∧ Gr w0 w') := by
  refine calls_of Tryd.func97 rfl Tryd.ntmps97 rfl fun a hF => ?_
  have hM := Mem.start w0
  have hF := hF.sub (L' := [(0, (Value.int .i64 7))]) ⟨rfl, trivial⟩
  refine wp_seq ?_
  refine wp_region_lit ?_
  refine wl (d_assign rfl) rfl hF (fun a hF => ?_)
  refine wl_nil ?_
  have hF := hF.sub (L' := [(0, (Value.int .i64 7)), (2, (Value.string (bs [])))]) ⟨rfl, rfl, trivial⟩
  refine then_n ?_
  refine wp_seq ?_
  refine wp_region_lit ?_
  refine wlR (ok_buildSlice (cells := #[(Value.string (bs [])), (Value.string (bs [110])), (Value.string (bs [112, 117, 98])), (Value.string (bs [100, 104])), (Value.string (bs [107, 101, 109])), (Value.string (bs [99, 116])), (Value.string (bs [104])), (Value.string (bs [101, 110, 99])), (Value.string (bs [115, 105, 103])), (Value.string (bs [112, 97, 105, 114]))]) Tryd.underlying132 zz9 rfl (by decide) (by decide) (by kernel_rfl)) rfl hF ?_
  rintro _ w a ⟨b1, rfl, hnb_⟩ hF
  have hM : Mem w0 w [(b1, #[(Value.string (bs [])), (Value.string (bs [110])), (Value.string (bs [112, 117, 98])), (Value.string (bs [100, 104])), (Value.string (bs [107, 101, 109])), (Value.string (bs [99, 116])), (Value.string (bs [104])), (Value.string (bs [101, 110, 99])), (Value.string (bs [115, 105, 103])), (Value.string (bs [112, 97, 105, 114]))], 9)] := hM.alloc hnb_
  refine wl (d_assign rfl) rfl hF (fun a hF => ?_)
  refine wl_nil ?_
  have hF := hF.sub (L' := [(0, (Value.int .i64 7)), (2, (Value.string (bs []))), (3, (Value.slice (some ⟨b1, 0, none⟩) 10 10))]) ⟨rfl, rfl, rfl, trivial⟩
  refine then_n ?_
  refine wp_seq ?_
  refine wp_region_lit ?_
  refine wl (d_move rfl) rfl hF (fun a hF => ?_)
  refine wl (d_move rfl) rfl hF (fun a hF => ?_)
  refine wl (d_ixS0 (j := 7) Tryd.underlying132 sz9 rfl rfl rfl (by omega)) rfl hF (fun a hF => ?_)
  refine wl (d_load1 Tryd.underlying9 rfl rfl (hM.cell 0 rfl rfl)) rfl hF (fun a hF => ?_)
  refine wl (d_assign rfl) rfl hF (fun a hF => ?_)
  refine wl_nil ?_
  have hF := hF.sub (L' := [(0, (Value.int .i64 7)), (2, (Value.string (bs [101, 110, 99]))), (3, (Value.slice (some ⟨b1, 0, none⟩) 10 10))]) ⟨rfl, rfl, rfl, trivial⟩
  refine then_n ?_
  refine wp_ret ?_
  refine body_ret hF (results1 Tryd.results97 (RV.tmp hF rfl)) ?_
  exact ⟨rfl, hM.below⟩

set_option maxRecDepth 100000 in
theorem word8_calls (w0 : World) : Calls Tryd.prog 97 (List.toArray [.int .i64 8]) w0 (Ret fun v w' => v = .string (bs (word 8)) ∧ Gr w0 w') := by
  refine calls_of Tryd.func97 rfl Tryd.ntmps97 rfl fun a hF => ?_
  have hM := Mem.start w0
  have hF := hF.sub (L' := [(0, (Value.int .i64 8))]) ⟨rfl, trivial⟩
  refine wp_seq ?_
  refine wp_region_lit ?_
  refine wl (d_assign rfl) rfl hF (fun a hF => ?_)
  refine wl_nil ?_
  have hF := hF.sub (L' := [(0, (Value.int .i64 8)), (2, (Value.string (bs [])))]) ⟨rfl, rfl, trivial⟩
  refine then_n ?_
  refine wp_seq ?_
  refine wp_region_lit ?_
  refine wlR (ok_buildSlice (cells := #[(Value.string (bs [])), (Value.string (bs [110])), (Value.string (bs [112, 117, 98])), (Value.string (bs [100, 104])), (Value.string (bs [107, 101, 109])), (Value.string (bs [99, 116])), (Value.string (bs [104])), (Value.string (bs [101, 110, 99])), (Value.string (bs [115, 105, 103])), (Value.string (bs [112, 97, 105, 114]))]) Tryd.underlying132 zz9 rfl (by decide) (by decide) (by kernel_rfl)) rfl hF ?_
  rintro _ w a ⟨b1, rfl, hnb_⟩ hF
  have hM : Mem w0 w [(b1, #[(Value.string (bs [])), (Value.string (bs [110])), (Value.string (bs [112, 117, 98])), (Value.string (bs [100, 104])), (Value.string (bs [107, 101, 109])), (Value.string (bs [99, 116])), (Value.string (bs [104])), (Value.string (bs [101, 110, 99])), (Value.string (bs [115, 105, 103])), (Value.string (bs [112, 97, 105, 114]))], 9)] := hM.alloc hnb_
  refine wl (d_assign rfl) rfl hF (fun a hF => ?_)
  refine wl_nil ?_
  have hF := hF.sub (L' := [(0, (Value.int .i64 8)), (2, (Value.string (bs []))), (3, (Value.slice (some ⟨b1, 0, none⟩) 10 10))]) ⟨rfl, rfl, rfl, trivial⟩
  refine then_n ?_
  refine wp_seq ?_
  refine wp_region_lit ?_
  refine wl (d_move rfl) rfl hF (fun a hF => ?_)
  refine wl (d_move rfl) rfl hF (fun a hF => ?_)
  refine wl (d_ixS0 (j := 8) Tryd.underlying132 sz9 rfl rfl rfl (by omega)) rfl hF (fun a hF => ?_)
  refine wl (d_load1 Tryd.underlying9 rfl rfl (hM.cell 0 rfl rfl)) rfl hF (fun a hF => ?_)
  refine wl (d_assign rfl) rfl hF (fun a hF => ?_)
  refine wl_nil ?_
  have hF := hF.sub (L' := [(0, (Value.int .i64 8)), (2, (Value.string (bs [115, 105, 103]))), (3, (Value.slice (some ⟨b1, 0, none⟩) 10 10))]) ⟨rfl, rfl, rfl, trivial⟩
  refine then_n ?_
  refine wp_ret ?_
  refine body_ret hF (results1 Tryd.results97 (RV.tmp hF rfl)) ?_
  exact ⟨rfl, hM.below⟩

set_option maxRecDepth 100000 in
theorem word9_calls (w0 : World) : Calls Tryd.prog 97 (List.toArray [.int .i64 9]) w0 (Ret fun v w' => v = .string (bs (word 9)) ∧ Gr w0 w') := by
  refine calls_of Tryd.func97 rfl Tryd.ntmps97 rfl fun a hF => ?_
  have hM := Mem.start w0
  have hF := hF.sub (L' := [(0, (Value.int .i64 9))]) ⟨rfl, trivial⟩
  refine wp_seq ?_
  refine wp_region_lit ?_
  refine wl (d_assign rfl) rfl hF (fun a hF => ?_)
  refine wl_nil ?_
  have hF := hF.sub (L' := [(0, (Value.int .i64 9)), (2, (Value.string (bs [])))]) ⟨rfl, rfl, trivial⟩
  refine then_n ?_
  refine wp_seq ?_
  refine wp_region_lit ?_
  refine wlR (ok_buildSlice (cells := #[(Value.string (bs [])), (Value.string (bs [110])), (Value.string (bs [112, 117, 98])), (Value.string (bs [100, 104])), (Value.string (bs [107, 101, 109])), (Value.string (bs [99, 116])), (Value.string (bs [104])), (Value.string (bs [101, 110, 99])), (Value.string (bs [115, 105, 103])), (Value.string (bs [112, 97, 105, 114]))]) Tryd.underlying132 zz9 rfl (by decide) (by decide) (by kernel_rfl)) rfl hF ?_
  rintro _ w a ⟨b1, rfl, hnb_⟩ hF
  have hM : Mem w0 w [(b1, #[(Value.string (bs [])), (Value.string (bs [110])), (Value.string (bs [112, 117, 98])), (Value.string (bs [100, 104])), (Value.string (bs [107, 101, 109])), (Value.string (bs [99, 116])), (Value.string (bs [104])), (Value.string (bs [101, 110, 99])), (Value.string (bs [115, 105, 103])), (Value.string (bs [112, 97, 105, 114]))], 9)] := hM.alloc hnb_
  refine wl (d_assign rfl) rfl hF (fun a hF => ?_)
  refine wl_nil ?_
  have hF := hF.sub (L' := [(0, (Value.int .i64 9)), (2, (Value.string (bs []))), (3, (Value.slice (some ⟨b1, 0, none⟩) 10 10))]) ⟨rfl, rfl, rfl, trivial⟩
  refine then_n ?_
  refine wp_seq ?_
  refine wp_region_lit ?_
  refine wl (d_move rfl) rfl hF (fun a hF => ?_)
  refine wl (d_move rfl) rfl hF (fun a hF => ?_)
  refine wl (d_ixS0 (j := 9) Tryd.underlying132 sz9 rfl rfl rfl (by omega)) rfl hF (fun a hF => ?_)
  refine wl (d_load1 Tryd.underlying9 rfl rfl (hM.cell 0 rfl rfl)) rfl hF (fun a hF => ?_)
  refine wl (d_assign rfl) rfl hF (fun a hF => ?_)
  refine wl_nil ?_
  have hF := hF.sub (L' := [(0, (Value.int .i64 9)), (2, (Value.string (bs [112, 97, 105, 114]))), (3, (Value.slice (some ⟨b1, 0, none⟩) 10 10))]) ⟨rfl, rfl, rfl, trivial⟩
  refine then_n ?_
  refine wp_ret ?_
  refine body_ret hF (results1 Tryd.results97 (RV.tmp hF rfl)) ?_
  exact ⟨rfl, hM.below⟩
/-- what strings.Join returns -/
def JoinOk : Prop := ∀ (lv : Value) (g c : Nat) (l : List Tx) (w : World), lv = .slice (some ⟨g, 0, none⟩) l.length c → g < w.heap.size → l.length ≤ c → At w g 0 (l.map fun x => Value.string (bs x)) → (Lib.join l [44]).length ≤ 1099511627776 → Calls Tryd.prog 99 (List.toArray [lv, .string (bs [44])]) w (Ret fun v w' => v = .string (bs (Lib.join l [44])) ∧ Gr w w')
theorem word_calls {k : Int} (h : 1 ≤ k ∧ k ≤ 9) (w0 : World) : Calls Tryd.prog 97 (List.toArray [.int .i64 k]) w0 (Ret fun v w' => v = .string (bs (word k)) ∧ Gr w0 w') := by
  have : k = 1 ∨ k = 2 ∨ k = 3 ∨ k = 4 ∨ k = 5 ∨ k = 6 ∨ k = 7 ∨ k = 8 ∨ k = 9 := by omega
  rcases this with rfl | rfl | rfl | rfl | rfl | rfl | rfl | rfl | rfl
  · exact word1_calls w0
  · exact word2_calls w0
  · exact word3_calls w0
  · exact word4_calls w0
  · exact word5_calls w0
  · exact word6_calls w0
  · exact word7_calls w0
  · exact word8_calls w0
  · exact word9_calls w0
end Go.Mi.Term
