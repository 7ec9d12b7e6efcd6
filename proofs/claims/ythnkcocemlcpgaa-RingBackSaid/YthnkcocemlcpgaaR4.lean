/- Walks: what functions of ring, and of the reference, return. -/
import Derived.Test.YthnkcocemlcpgaaR0
import Derived.Test.YthnkcocemlcpgaaRf
import Derived.Test.YthnkcocemlcpgaaR1
import Derived.Test.YthnkcocemlcpgaaR0e
import Derived.Test.YthnkcocemlcpgaaR2
import Derived.Test.YthnkcocemlcpgaaR3
import Derived.Test.YthnkcocemlcpgaaRb
namespace Go.Mi.Ring
open Go.Mi Go.Proofs
set_option maxRecDepth 100000 in
theorem EncodeErr_calls (F : Nat → Int) (d : Int) (hd : d < 1 ∨ 12 < d) (w0 : World) : Calls Try.prog 27 (List.toArray [.agg (cl .u16 256 F), .int .i64 d]) w0 (Ret fun v w' => v = .tuple #[.slice none 0 0, .int .i64 1] ∧ Gr w0 w') := by
  refine calls_of Try.func27 rfl Try.ntmps27 rfl fun a hF => ?_
  have hM := Mem.start w0
  have hF := hF.sub (L' := [(0, (Value.agg (cl .u16 256 F))), (1, (Value.int .i64 d))]) ⟨rfl, rfl, trivial⟩
  refine wp_seq ?_
  refine wp_region_lit ?_
  refine wlR (ok_box rfl) rfl hF ?_
  rintro _ w a ⟨b1, rfl, hnb_⟩ hF
  have hM : Mem w0 w [(b1, cl .u16 256 F, 26)] := hM.alloc hnb_
  refine wl (d_assign rfl) rfl hF (fun a hF => ?_)
  refine wl (d_assign rfl) rfl hF (fun a hF => ?_)
  refine wl_nil ?_
  have hF := hF.sub (L' := [(0, (Value.agg (cl .u16 256 F))), (1, (Value.int .i64 d)), (2, (Value.pointer (some ⟨b1, 0, none⟩))), (4, (Value.slice none 0 0)), (5, (Value.int .i64 0))]) ⟨rfl, rfl, rfl, rfl, rfl, trivial⟩
  refine then_n ?_
  refine wp_seq ?_
  refine wp_seq ?_
  refine wp_region_lit ?_
  refine wl (d_move rfl) rfl hF (fun a hF => ?_)
  refine wl (d_lss rfl rfl) rfl hF (fun a hF => ?_)
  refine wl (d_move rfl) rfl hF (fun a hF => ?_)
  by_cases hlt : d < (1 : Int)
  · have hdec_ : decide (d < (1 : Int)) = true := decide_eq_true hlt
    rw [hdec_] at hF
    refine wlgs (c := true) rfl rfl rfl hF (fun a hF => ?_)
    refine wlgs (c := true) rfl rfl rfl hF (fun a hF => ?_)
    refine wl (d_pick (b := true) rfl rfl) rfl hF (fun a hF => ?_)
    refine wl_nil ?_
    have hF := hF.sub (L' := [(0, (Value.agg (cl .u16 256 F))), (1, (Value.int .i64 d)), (2, (Value.pointer (some ⟨b1, 0, none⟩))), (4, (Value.slice none 0 0)), (5, (Value.int .i64 0)), (16, (Value.bool true))]) ⟨rfl, rfl, rfl, rfl, rfl, rfl, trivial⟩
    refine then_n ?_
    refine wp_cond_true (hF.eval rfl) ?_
    refine wp_seq ?_
    refine wp_region_lit ?_
    refine wl (d_assign rfl) rfl hF (fun a hF => ?_)
    refine wl (d_assign rfl) rfl hF (fun a hF => ?_)
    refine wl_nil ?_
    have hF := hF.sub (L' := [(0, (Value.agg (cl .u16 256 F))), (1, (Value.int .i64 d)), (2, (Value.pointer (some ⟨b1, 0, none⟩))), (4, (Value.slice none 0 0)), (5, (Value.int .i64 1)), (16, (Value.bool true))]) ⟨rfl, rfl, rfl, rfl, rfl, rfl, trivial⟩
    refine then_n ?_
    refine wp_ret ?_
    refine then_ret ?_
    refine body_ret hF (results2 Try.results27 (RV.tmp hF rfl) (RV.tmp hF rfl)) ?_
    exact ⟨rfl, hM.below⟩
  · have hdec_ : decide (d < (1 : Int)) = false := decide_eq_false hlt
    rw [hdec_] at hF
    refine wlg rfl (d_move rfl) rfl hF (fun a hF => ?_)
    refine wlg rfl (d_bool (c := true) (d_gtr rfl rfl) (decide_eq_true (by omega))) rfl hF (fun a hF => ?_)
    refine wl (d_pick (b := false) rfl rfl) rfl hF (fun a hF => ?_)
    refine wl_nil ?_
    have hF := hF.sub (L' := [(0, (Value.agg (cl .u16 256 F))), (1, (Value.int .i64 d)), (2, (Value.pointer (some ⟨b1, 0, none⟩))), (4, (Value.slice none 0 0)), (5, (Value.int .i64 0)), (16, (Value.bool true))]) ⟨rfl, rfl, rfl, rfl, rfl, rfl, trivial⟩
    refine then_n ?_
    refine wp_cond_true (hF.eval rfl) ?_
    refine wp_seq ?_
    refine wp_region_lit ?_
    refine wl (d_assign rfl) rfl hF (fun a hF => ?_)
    refine wl (d_assign rfl) rfl hF (fun a hF => ?_)
    refine wl_nil ?_
    have hF := hF.sub (L' := [(0, (Value.agg (cl .u16 256 F))), (1, (Value.int .i64 d)), (2, (Value.pointer (some ⟨b1, 0, none⟩))), (4, (Value.slice none 0 0)), (5, (Value.int .i64 1)), (16, (Value.bool true))]) ⟨rfl, rfl, rfl, rfl, rfl, rfl, trivial⟩
    refine then_n ?_
    refine wp_ret ?_
    refine then_ret ?_
    refine body_ret hF (results2 Try.results27 (RV.tmp hF rfl) (RV.tmp hF rfl)) ?_
    exact ⟨rfl, hM.below⟩

set_option maxRecDepth 100000 in
theorem Encode_calls {F : Nat → Int} {d n : Nat} (hf : U16 F) (hd : 1 ≤ d ∧ d ≤ 12) (hn : n = 32 * d) (w0 : World) : Calls Try.prog 27 (List.toArray [.agg (cl .u16 256 F), .int .i64 (d : Int)]) w0 (Ret fun v w' => (∃ b, v = .tuple #[.slice (some ⟨b, 0, none⟩) n n, .int .i64 0] ∧ w0.heap.size ≤ b ∧ w'.heap[b]? = some (.cells (cl .u8 n (enc d F)) 5 (0, 0))) ∧ Gr w0 w') := by
  refine calls_of Try.func27 rfl Try.ntmps27 rfl fun a hF => ?_
  have hM := Mem.start w0
  have hF := hF.sub (L' := [(0, (Value.agg (cl .u16 256 F))), (1, (Value.int .i64 (d : Int)))]) ⟨rfl, rfl, trivial⟩
  refine wp_seq ?_
  refine wp_region_lit ?_
  refine wlR (ok_box rfl) rfl hF ?_
  rintro _ w a ⟨b1, rfl, hnb_⟩ hF
  have hM : Mem w0 w [(b1, cl .u16 256 F, 26)] := hM.alloc hnb_
  refine wl (d_assign rfl) rfl hF (fun a hF => ?_)
  refine wl (d_assign rfl) rfl hF (fun a hF => ?_)
  refine wl_nil ?_
  have hF := hF.sub (L' := [(0, (Value.agg (cl .u16 256 F))), (1, (Value.int .i64 (d : Int))), (2, (Value.pointer (some ⟨b1, 0, none⟩))), (4, (Value.slice none 0 0)), (5, (Value.int .i64 0))]) ⟨rfl, rfl, rfl, rfl, rfl, trivial⟩
  refine then_n ?_
  refine wp_seq ?_
  refine wp_seq ?_
  refine wp_region_lit ?_
  refine wl (d_move rfl) rfl hF (fun a hF => ?_)
  refine wl (d_bool (c := false) (d_lss rfl rfl) (decide_eq_false (by omega))) rfl hF (fun a hF => ?_)
  refine wl (d_move rfl) rfl hF (fun a hF => ?_)
  refine wlg rfl (d_move rfl) rfl hF (fun a hF => ?_)
  refine wlg rfl (d_bool (c := false) (d_gtr rfl rfl) (decide_eq_false (by omega))) rfl hF (fun a hF => ?_)
  refine wl (d_pick (b := false) rfl rfl) rfl hF (fun a hF => ?_)
  refine wl_nil ?_
  have hF := hF.sub (L' := [(0, (Value.agg (cl .u16 256 F))), (1, (Value.int .i64 (d : Int))), (2, (Value.pointer (some ⟨b1, 0, none⟩))), (4, (Value.slice none 0 0)), (5, (Value.int .i64 0)), (16, (Value.bool false))]) ⟨rfl, rfl, rfl, rfl, rfl, rfl, trivial⟩
  refine then_n ?_
  refine wp_cond_false (hF.eval rfl) ?_
  refine wp_skip ?_
  refine then_n ?_
  refine wp_seq ?_
  refine wp_region_lit ?_
  refine wl (d_move rfl) rfl hF (fun a hF => ?_)
  refine wl (d_mul rfl rfl (wrap_i64 (by omega) (by omega))) rfl hF (fun a hF => ?_)
  refine wlR (ok_makeN (m := n) Try.underlying39 mk5 rfl (by omega) rfl (by omega)) rfl hF ?_
  rintro _ w a ⟨b2, rfl, hnb_⟩ hF
  have hM : Mem w0 w [(b1, cl .u16 256 F, 26), (b2, cl .u8 n fun _ => 0, 5)] := (cl_const _ _ _) ▸ hM.alloc hnb_
  refine wl (d_assign rfl) rfl hF (fun a hF => ?_)
  refine wl_nil ?_
  have hF := hF.sub (L' := [(0, (Value.agg (cl .u16 256 F))), (1, (Value.int .i64 (d : Int))), (2, (Value.pointer (some ⟨b1, 0, none⟩))), (4, (Value.slice none 0 0)), (5, (Value.int .i64 0)), (6, (Value.slice (some ⟨b2, 0, none⟩) n n)), (16, (Value.bool false))]) ⟨rfl, rfl, rfl, rfl, rfl, rfl, rfl, trivial⟩
  refine then_n ?_
  refine wp_seq ?_
  refine wp_seq ?_
  refine wp_region_lit ?_
  refine wl (d_loadA Try.underlying26 rfl sz26 rfl (hM.at 0 rfl) (cl_size _ _ _)) rfl hF (fun a hF => ?_)
  refine wl (d_move rfl) rfl hF (fun a hF => ?_)
  refine wl_nil ?_
  have hF := hF.sub (L' := [(0, (Value.agg (cl .u16 256 F))), (1, (Value.int .i64 (d : Int))), (2, (Value.pointer (some ⟨b1, 0, none⟩))), (4, (Value.slice none 0 0)), (5, (Value.int .i64 0)), (6, (Value.slice (some ⟨b2, 0, none⟩) n n)), (16, (Value.bool false)), (20, (Value.agg (cl .u16 256 F))), (21, (Value.int .i64 0))]) ⟨rfl, rfl, rfl, rfl, rfl, rfl, rfl, rfl, rfl, trivial⟩
  refine then_n ?_
  refine wp_block ?_
  refine wp_loop_k (fun fu_ a w => ∃ i : Nat, fu_ = 256 - i ∧ (i ≤ 256) ∧ Frm a 56 [(1, (Value.int .i64 (d : Int))), (6, (Value.slice (some ⟨b2, 0, none⟩) n n)), (20, (Value.agg (cl .u16 256 F))), (21, (Value.int .i64 (i : Int)))] ∧ Mem w0 w [(b1, cl .u16 256 F, 26), (b2, cl .u8 n (eb (ebit d F) (i * d)), 5)]) _ ⟨0, rfl, (by omega), hF.sub ⟨rfl, rfl, rfl, rfl, trivial⟩, ?_⟩ ?_
  · rw [Nat.zero_mul, eb_zero]; exact hM
  rintro _ a w ⟨i, rfl, hl1_0, hF, hM⟩
  refine wp_seq ?_
  refine wp_region_lit ?_
  refine wl (d_lss rfl rfl) rfl hF (fun a hF => ?_)
  refine wl_nil ?_
  have hF := hF.sub (L' := [(1, (Value.int .i64 (d : Int))), (6, (Value.slice (some ⟨b2, 0, none⟩) n n)), (20, (Value.agg (cl .u16 256 F))), (21, (Value.int .i64 (i : Int))), (22, (Value.bool (decide ((i : Int) < 256))))]) ⟨rfl, rfl, rfl, rfl, rfl, trivial⟩
  refine then_n ?_
  refine wp_seq ?_
  refine wp_if hF rfl (fun h => ?_) (fun h => ?_)
  · have h1 := of_decide_eq_true h
    clear h
    have hfi := hf i (by omega)
    refine wp_skip ?_
    refine then_n ?_
    refine wp_seq ?_
    refine wp_block ?_
    refine wp_seq ?_
    refine wp_region_lit ?_
    refine wl (d_move rfl) rfl hF (fun a hF => ?_)
    refine wl (d_indexN (j := i) Try.underlying26 Try.underlying24 rfl sz24 rfl rfl rfl (by omega) (cl_get (by omega))) rfl hF (fun a hF => ?_)
    refine wl (d_assign rfl) rfl hF (fun a hF => ?_)
    refine wl (d_assign rfl) rfl hF (fun a hF => ?_)
    refine wl_nil ?_
    have hF := hF.sub (L' := [(1, (Value.int .i64 (d : Int))), (6, (Value.slice (some ⟨b2, 0, none⟩) n n)), (7, (Value.int .i64 (i : Int))), (8, (Value.int .u16 (F i))), (20, (Value.agg (cl .u16 256 F))), (21, (Value.int .i64 (i : Int))), (22, (Value.bool (decide ((i : Int) < 256))))]) ⟨rfl, rfl, rfl, rfl, rfl, rfl, rfl, trivial⟩
    refine then_n ?_
    refine wp_seq ?_
    refine wp_seq ?_
    refine wp_region_lit ?_
    refine wl (d_move rfl) rfl hF (fun a hF => ?_)
    refine wl (d_eql rfl rfl) rfl hF (fun a hF => ?_)
    refine wl_nil ?_
    have hF := hF.sub (L' := [(1, (Value.int .i64 (d : Int))), (6, (Value.slice (some ⟨b2, 0, none⟩) n n)), (7, (Value.int .i64 (i : Int))), (8, (Value.int .u16 (F i))), (20, (Value.agg (cl .u16 256 F))), (21, (Value.int .i64 (i : Int))), (22, (Value.bool (decide ((i : Int) < 256)))), (26, (Value.bool (decide ((d : Int) = 12))))]) ⟨rfl, rfl, rfl, rfl, rfl, rfl, rfl, rfl, trivial⟩
    refine then_n ?_
    refine wp_join (fun a w => Frm a 56 [(1, (Value.int .i64 (d : Int))), (6, (Value.slice (some ⟨b2, 0, none⟩) n n)), (7, (Value.int .i64 (i : Int))), (8, (Value.int .u16 (xv d F i))), (20, (Value.agg (cl .u16 256 F))), (21, (Value.int .i64 (i : Int))), (22, (Value.bool (decide ((i : Int) < 256))))] ∧ Mem w0 w [(b1, cl .u16 256 F, 26), (b2, cl .u8 n (eb (ebit d F) (i * d)), 5)]) ?_ ?_
    rotate_left
    · rintro a w ⟨hF, hM⟩
      refine wp_seq ?_
      refine wp_region_lit ?_
      refine wl (d_move rfl) rfl hF (fun a hF => ?_)
      refine wl (d_move rfl) rfl hF (fun a hF => ?_)
      refine wl_nil ?_
      have hF := hF.sub (L' := [(1, (Value.int .i64 (d : Int))), (6, (Value.slice (some ⟨b2, 0, none⟩) n n)), (7, (Value.int .i64 (i : Int))), (8, (Value.int .u16 (xv d F i))), (20, (Value.agg (cl .u16 256 F))), (21, (Value.int .i64 (i : Int))), (22, (Value.bool (decide ((i : Int) < 256)))), (29, (Value.int .i64 (d : Int))), (30, (Value.int .i64 0))]) ⟨rfl, rfl, rfl, rfl, rfl, rfl, rfl, rfl, rfl, trivial⟩
      refine then_n ?_
      refine wp_block ?_
      refine wp_loop_k (fun fu_ a w => ∃ k : Nat, fu_ = d - k ∧ (k ≤ d) ∧ Frm a 56 [(1, (Value.int .i64 (d : Int))), (6, (Value.slice (some ⟨b2, 0, none⟩) n n)), (7, (Value.int .i64 (i : Int))), (8, (Value.int .u16 (xv d F i))), (20, (Value.agg (cl .u16 256 F))), (21, (Value.int .i64 (i : Int))), (29, (Value.int .i64 (d : Int))), (30, (Value.int .i64 (k : Int)))] ∧ Mem w0 w [(b1, cl .u16 256 F, 26), (b2, cl .u8 n (eb (ebit d F) (i * d + k)), 5)]) _ ⟨0, rfl, (by omega), hF.sub ⟨rfl, rfl, rfl, rfl, rfl, rfl, rfl, rfl, trivial⟩, ?_⟩ ?_
      · exact hM
      rintro _ a w ⟨k, rfl, hl2_0, hF, hM⟩
      refine wp_seq ?_
      refine wp_region_lit ?_
      refine wl (d_lss rfl rfl) rfl hF (fun a hF => ?_)
      refine wl_nil ?_
      have hF := hF.sub (L' := [(1, (Value.int .i64 (d : Int))), (6, (Value.slice (some ⟨b2, 0, none⟩) n n)), (7, (Value.int .i64 (i : Int))), (8, (Value.int .u16 (xv d F i))), (20, (Value.agg (cl .u16 256 F))), (21, (Value.int .i64 (i : Int))), (29, (Value.int .i64 (d : Int))), (30, (Value.int .i64 (k : Int))), (31, (Value.bool (decide ((k : Int) < (d : Int)))))]) ⟨rfl, rfl, rfl, rfl, rfl, rfl, rfl, rfl, rfl, trivial⟩
      refine then_n ?_
      refine wp_seq ?_
      refine wp_if hF rfl (fun h => ?_) (fun h => ?_)
      · have h2 := of_decide_eq_true h
        clear h
        have hq : (i + 1) * d ≤ 256 * d := Nat.mul_le_mul_right d (by omega)
        rw [Nat.succ_mul] at hq
        have hx := xv_b (d := d) hf (i := i) (by omega)
        have hbt := ebit_b d F (i * d + k)
        have heb := eb_b (ebit_b d F) (i * d + k)
        have hkd : k < d := by omega
        have hs0 : 0 ≤ xv d F i / 2 ^ k := Int.ediv_nonneg hx.1 (Int.le_of_lt (pow_pos' k))
        have hs1 : xv d F i / 2 ^ k ≤ xv d F i := Int.ediv_le_self _ hx.1
        refine wp_skip ?_
        refine then_n ?_
        refine wp_seq ?_
        refine wp_block ?_
        refine wp_seq ?_
        refine wp_region_lit ?_
        refine wl (d_move rfl) rfl hF (fun a hF => ?_)
        refine wl (d_assign rfl) rfl hF (fun a hF => ?_)
        refine wl_nil ?_
        have hF := hF.sub (L' := [(1, (Value.int .i64 (d : Int))), (6, (Value.slice (some ⟨b2, 0, none⟩) n n)), (7, (Value.int .i64 (i : Int))), (8, (Value.int .u16 (xv d F i))), (9, (Value.int .i64 (k : Int))), (20, (Value.agg (cl .u16 256 F))), (21, (Value.int .i64 (i : Int))), (29, (Value.int .i64 (d : Int))), (30, (Value.int .i64 (k : Int))), (31, (Value.bool (decide ((k : Int) < (d : Int)))))]) ⟨rfl, rfl, rfl, rfl, rfl, rfl, rfl, rfl, rfl, rfl, trivial⟩
        refine then_n ?_
        refine wp_seq ?_
        refine wp_region_lit ?_
        refine wl (d_move rfl) rfl hF (fun a hF => ?_)
        refine wl (d_move rfl) rfl hF (fun a hF => ?_)
        refine wl (d_val (y := ((i * d : Nat) : Int)) (d_mul rfl rfl (wrap_i64 (by omega) (by omega))) (Int.natCast_mul i d).symm) rfl hF (fun a hF => ?_)
        refine wl (d_move rfl) rfl hF (fun a hF => ?_)
        refine wl (d_val (y := ((i * d + k : Nat) : Int)) (d_add rfl rfl (wrap_i64 (by omega) (by omega))) (by omega)) rfl hF (fun a hF => ?_)
        refine wl (d_assign rfl) rfl hF (fun a hF => ?_)
        refine wl_nil ?_
        have hF := hF.sub (L' := [(1, (Value.int .i64 (d : Int))), (6, (Value.slice (some ⟨b2, 0, none⟩) n n)), (7, (Value.int .i64 (i : Int))), (8, (Value.int .u16 (xv d F i))), (9, (Value.int .i64 (k : Int))), (10, (Value.int .i64 ((i * d + k : Nat) : Int))), (20, (Value.agg (cl .u16 256 F))), (21, (Value.int .i64 (i : Int))), (29, (Value.int .i64 (d : Int))), (30, (Value.int .i64 (k : Int))), (31, (Value.bool (decide ((k : Int) < (d : Int)))))]) ⟨rfl, rfl, rfl, rfl, rfl, rfl, rfl, rfl, rfl, rfl, rfl, trivial⟩
        refine then_n ?_
        refine region_plan Tt mo (fun ph_ w => Mem w0 w (([[(b1, cl .u16 256 F, 26), (b2, cl .u8 n (eb (ebit d F) (i * d + k)), 5)], [(b1, cl .u16 256 F, 26), (b2, cl .u8 n (upd (eb (ebit d F) (i * d + k)) ((i * d + k) / 8) ((eb (ebit d F) (i * d + k)) ((i * d + k) / 8) + ebit d F (i * d + k) * 2 ^ ((i * d + k) % 8))), 5)]] : List (List Blk)).getD ph_ [])) [15] (rows := [⟨[], [(6, (Value.slice (some ⟨b2, 0, none⟩) n n))], [0], .val (Value.slice (some ⟨b2, 0, none⟩) n n)⟩, ⟨[], [(10, (Value.int .i64 ((i * d + k : Nat) : Int)))], [0], .val (Value.int .i64 ((i * d + k : Nat) : Int))⟩, ⟨[(1, 39)], [], [0], .val (Value.int .i64 (((i * d + k) / 8 : Nat) : Int))⟩, ⟨[(0, 38), (2, 40)], [], [0], .val (Value.pointer (some ⟨b2, (i * d + k) / 8, none⟩))⟩, ⟨[(3, 41)], [], [0], .val (Value.int .u8 ((eb (ebit d F) (i * d + k)) ((i * d + k) / 8)))⟩, ⟨[], [(8, (Value.int .u16 (xv d F i)))], [0], .val (Value.int .u16 (xv d F i))⟩, ⟨[], [(9, (Value.int .i64 (k : Int)))], [0], .val (Value.int .i64 (k : Int))⟩, ⟨[(5, 43), (6, 44)], [], [0], .val (Value.int .u16 (xv d F i / 2 ^ k))⟩, ⟨[(7, 45)], [], [0], .val (Value.int .u16 (ebit d F (i * d + k)))⟩, ⟨[(8, 46)], [], [0], .val (Value.int .u8 (ebit d F (i * d + k)))⟩, ⟨[], [(10, (Value.int .i64 ((i * d + k : Nat) : Int)))], [0], .val (Value.int .i64 ((i * d + k : Nat) : Int))⟩, ⟨[(10, 48)], [], [0], .val (Value.int .i64 (((i * d + k) % 8 : Nat) : Int))⟩, ⟨[(9, 47), (11, 49)], [], [0], .val (Value.int .u8 (ebit d F (i * d + k) * 2 ^ ((i * d + k) % 8)))⟩, ⟨[(4, 42), (12, 50)], [], [0], .val (Value.int .u8 ((eb (ebit d F) (i * d + k)) ((i * d + k) / 8) + ebit d F (i * d + k) * 2 ^ ((i * d + k) % 8)))⟩, ⟨[(0, 38), (2, 40)], [], [0], .val (Value.pointer (some ⟨b2, (i * d + k) / 8, none⟩))⟩, ⟨[(14, 52), (13, 51)], [], [0], .rel (fun _ _ => True) (fun _ _ _ _ _ => trivial)⟩]) (by kernel_rfl) hF hM.drew ?_ ?_
        · refine ⟨?_, ?_, ?_, ?_, ?_, ?_, ?_, ?_, ?_, ?_, ?_, ?_, ?_, ?_, ?_, ?_, trivial⟩
          · exact ⟨⟨rfl, trivial⟩, fun ph_ _ vs w hW _ => Det.ob hW (d_move rfl)⟩
          · exact ⟨⟨rfl, trivial⟩, fun ph_ _ vs w hW _ => Det.ob hW (d_move rfl)⟩
          · exact ⟨trivial, fun ph_ _ vs w hW _ => Det.ob hW (d_val (y := (((i * d + k) / 8 : Nat) : Int)) (d_quo rfl rfl (by omega) (quo_i64 (by omega) (by omega) (by omega))) (by omega))⟩
          · exact ⟨trivial, fun ph_ _ vs w hW _ => Det.ob hW (d_ixS0 (j := (i * d + k) / 8) Try.underlying39 sz5 rfl rfl rfl (by omega))⟩
          · refine ⟨trivial, fun ph_ hp_ vs w hW _ => ?_⟩
            obtain rfl := memN_one hp_
            have hM : Mem w0 w [(b1, cl .u16 256 F, 26), (b2, cl .u8 n (eb (ebit d F) (i * d + k)), 5)] := hW
            exact Det.ob hW (d_load1 Try.underlying5 rfl rfl (hM.cell 1 rfl (cl_get (by omega))))
          · exact ⟨⟨rfl, trivial⟩, fun ph_ _ vs w hW _ => Det.ob hW (d_move rfl)⟩
          · exact ⟨⟨rfl, trivial⟩, fun ph_ _ vs w hW _ => Det.ob hW (d_move rfl)⟩
          · exact ⟨trivial, fun ph_ _ vs w hW _ => Det.ob hW (d_shr rfl rfl (by omega) (shr_u16 (by omega)))⟩
          · exact ⟨trivial, fun ph_ _ vs w hW _ => Det.ob hW (d_val (y := (ebit d F (i * d + k))) (d_and rfl rfl (and1_u16 hs0 (by omega))) (ebit_at F hkd).symm)⟩
          · exact ⟨trivial, fun ph_ _ vs w hW _ => Det.ob hW (d_conv Try.underlying24 Try.underlying5 rfl (wrap_u8 (by omega) (by omega)))⟩
          · exact ⟨⟨rfl, trivial⟩, fun ph_ _ vs w hW _ => Det.ob hW (d_move rfl)⟩
          · exact ⟨trivial, fun ph_ _ vs w hW _ => Det.ob hW (d_val (y := (((i * d + k) % 8 : Nat) : Int)) (d_rem rfl rfl (by omega) (tmod_pos (by omega))) (by omega))⟩
          · exact ⟨trivial, fun ph_ _ vs w hW _ => Det.ob hW (d_shl rfl rfl (by omega) (shlbit_u8 hbt.1 hbt.2 (by omega)))⟩
          · exact ⟨trivial, fun ph_ _ vs w hW _ => Det.ob hW (d_or rfl rfl (or_u8 (by omega) heb.1 heb.2 hbt.1 hbt.2))⟩
          · exact ⟨trivial, fun ph_ _ vs w hW _ => Det.ob hW (d_ixS0 (j := (i * d + k) / 8) Try.underlying39 sz5 rfl rfl rfl (by omega))⟩
          · refine ⟨trivial, fun ph_ hp_ vs w hW _ => ?_⟩
            obtain rfl := memN_one hp_
            have hM : Mem w0 w [(b1, cl .u16 256 F, 26), (b2, cl .u8 n (eb (ebit d F) (i * d + k)), 5)] := hW
            exact Ok1.obs (fun w' hu => by rw [cl_set] at hu; exact hM.upd 1 rfl hu) (ok_store1 (v := (Value.int .u8 ((eb (ebit d F) (i * d + k)) ((i * d + k) / 8) + ebit d F (i * d + k) * 2 ^ ((i * d + k) % 8)))) sz5 rfl rfl rfl (hM.at 1 rfl) (by rw [cl_size]; omega))
        · intro a w vs hW _ hF
          have hM : Mem w0 w [(b1, cl .u16 256 F, 26), (b2, cl .u8 n (upd (eb (ebit d F) (i * d + k)) ((i * d + k) / 8) ((eb (ebit d F) (i * d + k)) ((i * d + k) / 8) + ebit d F (i * d + k) * 2 ^ ((i * d + k) % 8))), 5)] := hW
          have hF := hF.sub (L' := [(1, (Value.int .i64 (d : Int))), (6, (Value.slice (some ⟨b2, 0, none⟩) n n)), (7, (Value.int .i64 (i : Int))), (8, (Value.int .u16 (xv d F i))), (9, (Value.int .i64 (k : Int))), (10, (Value.int .i64 ((i * d + k : Nat) : Int))), (20, (Value.agg (cl .u16 256 F))), (21, (Value.int .i64 (i : Int))), (29, (Value.int .i64 (d : Int))), (30, (Value.int .i64 (k : Int))), (31, (Value.bool (decide ((k : Int) < (d : Int)))))]) ⟨rfl, rfl, rfl, rfl, rfl, rfl, rfl, rfl, rfl, rfl, rfl, trivial⟩
          refine block_n ?_
          refine then_n ?_
          refine wp_region_lit ?_
          refine wl (d_add rfl rfl (wrap_i64 (by omega) (by omega))) rfl hF (fun a hF => ?_)
          refine wl (d_move rfl) rfl hF (fun a hF => ?_)
          refine wl_nil ?_
          have hF := hF.sub (L' := [(1, (Value.int .i64 (d : Int))), (6, (Value.slice (some ⟨b2, 0, none⟩) n n)), (7, (Value.int .i64 (i : Int))), (8, (Value.int .u16 (xv d F i))), (9, (Value.int .i64 (k : Int))), (10, (Value.int .i64 ((i * d + k : Nat) : Int))), (20, (Value.agg (cl .u16 256 F))), (21, (Value.int .i64 (i : Int))), (29, (Value.int .i64 (d : Int))), (30, (Value.int .i64 ((k : Int) + 1))), (31, (Value.bool (decide ((k : Int) < (d : Int)))))]) ⟨rfl, rfl, rfl, rfl, rfl, rfl, rfl, rfl, rfl, rfl, rfl, trivial⟩
          refine then_n ?_
          refine ⟨_, ?_, k + 1, rfl, (by omega), hF.sub ⟨rfl, rfl, rfl, rfl, rfl, rfl, rfl, rfl, trivial⟩, ?_⟩
          · omega
          rw [eb_step rfl] at hM
          exact hM
      · have h2 := of_decide_eq_false h
        clear h
        have hk : k = d := by omega
        rw [hk, ← Nat.succ_mul] at hM
        refine wp_exit ?_
        refine then_exit ?_
        refine then_exit ?_
        refine block_exit ?_
        refine block_n ?_
        refine then_n ?_
        refine wp_region_lit ?_
        refine wl (d_add rfl rfl (wrap_i64 (by omega) (by omega))) rfl hF (fun a hF => ?_)
        refine wl (d_move rfl) rfl hF (fun a hF => ?_)
        refine wl_nil ?_
        have hF := hF.sub (L' := [(1, (Value.int .i64 (d : Int))), (6, (Value.slice (some ⟨b2, 0, none⟩) n n)), (7, (Value.int .i64 (i : Int))), (8, (Value.int .u16 (xv d F i))), (20, (Value.agg (cl .u16 256 F))), (21, (Value.int .i64 ((i : Int) + 1))), (29, (Value.int .i64 (d : Int))), (30, (Value.int .i64 (k : Int))), (31, (Value.bool (decide ((k : Int) < (d : Int)))))]) ⟨rfl, rfl, rfl, rfl, rfl, rfl, rfl, rfl, rfl, trivial⟩
        refine then_n ?_
        refine ⟨_, ?_, i + 1, rfl, (by omega), hF.sub ⟨rfl, rfl, rfl, rfl, trivial⟩, ?_⟩
        · omega
        exact hM
    refine wp_if hF rfl (fun h => ?_) (fun h => ?_)
    · have hc := of_decide_eq_true h
      clear h
      refine wp_region_lit ?_
      refine wl (d_move rfl) rfl hF (fun a hF => ?_)
      refine wl (d_rem rfl rfl (by omega) (tmod_pos (by omega))) rfl hF (fun a hF => ?_)
      refine wl (d_assign rfl) rfl hF (fun a hF => ?_)
      refine wl_nil ?_
      have hF := hF.sub (L' := [(1, (Value.int .i64 (d : Int))), (6, (Value.slice (some ⟨b2, 0, none⟩) n n)), (7, (Value.int .i64 (i : Int))), (8, (Value.int .u16 (F i % 3329))), (20, (Value.agg (cl .u16 256 F))), (21, (Value.int .i64 (i : Int))), (22, (Value.bool (decide ((i : Int) < 256)))), (26, (Value.bool (decide ((d : Int) = 12))))]) ⟨rfl, rfl, rfl, rfl, rfl, rfl, rfl, rfl, trivial⟩
      refine then_n ?_
      rw [show F i % 3329 = xv d F i from by unfold xv; rw [if_pos (by omega)]] at hF
      refine ⟨hF.sub ⟨rfl, rfl, rfl, rfl, rfl, rfl, rfl, trivial⟩, ?_⟩
      exact hM
    · have hc := of_decide_eq_false h
      clear h
      refine wp_skip ?_
      refine then_n ?_
      rw [show F i = xv d F i from by unfold xv; rw [if_neg (by omega)]] at hF
      refine ⟨hF.sub ⟨rfl, rfl, rfl, rfl, rfl, rfl, rfl, trivial⟩, ?_⟩
      exact hM
  · have h1 := of_decide_eq_false h
    clear h
    have hi : i = 256 := by omega
    rw [hi, hn, eb_all, ← hn] at hM
    refine wp_exit ?_
    refine then_exit ?_
    refine then_exit ?_
    refine block_exit ?_
    refine then_n ?_
    refine wp_seq ?_
    refine wp_region_lit ?_
    refine wl (d_move rfl) rfl hF (fun a hF => ?_)
    refine wl (d_assign rfl) rfl hF (fun a hF => ?_)
    refine wl (d_assign rfl) rfl hF (fun a hF => ?_)
    refine wl_nil ?_
    have hF := hF.sub (L' := [(1, (Value.int .i64 (d : Int))), (4, (Value.slice (some ⟨b2, 0, none⟩) n n)), (5, (Value.int .i64 0)), (6, (Value.slice (some ⟨b2, 0, none⟩) n n)), (20, (Value.agg (cl .u16 256 F))), (21, (Value.int .i64 (i : Int))), (22, (Value.bool (decide ((i : Int) < 256))))]) ⟨rfl, rfl, rfl, rfl, rfl, rfl, rfl, trivial⟩
    refine then_n ?_
    refine wp_ret ?_
    refine body_ret hF (results2 Try.results27 (RV.tmp hF rfl) (RV.tmp hF rfl)) ?_
    exact ⟨⟨b2, rfl, hM.ge 1 rfl, hM.at 1 rfl⟩, hM.below⟩

set_option maxRecDepth 100000 in
theorem Unpack_calls {d n bb ob cp : Nat} {B : Nat → Int} (hd : 1 ≤ d ∧ d ≤ 12) (hn : n = 32 * d) {w0 : World} (hB : ∀ j, j < n → w0.cell? ⟨bb, ob + j, none⟩ = some (.int .u8 (B j))) (hb : ∀ j, j < n → 0 ≤ B j ∧ B j < 256) : Calls Try.prog 39 (List.toArray [.int .i64 (d : Int), .slice (some ⟨bb, ob, none⟩) n cp]) w0 (Ret fun v w' => (v = .agg (cl .u16 256 (unp d B))) ∧ Gr w0 w') := by
  refine calls_of Try.func39 rfl Try.ntmps39 rfl fun a hF => ?_
  have hM := Mem.start w0
  have hF := hF.sub (L' := [(0, (Value.int .i64 (d : Int))), (1, (Value.slice (some ⟨bb, ob, none⟩) n cp))]) ⟨rfl, rfl, trivial⟩
  refine wp_seq ?_
  refine wp_region_lit ?_
  refine wlR (ok_alloc z26) rfl hF ?_
  rintro _ w a ⟨b1, rfl, hnb_⟩ hF
  have hM : Mem w0 w [(b1, cl .u16 256 fun _ => 0, 26)] := hM.alloc hnb_
  refine wl_nil ?_
  have hF := hF.sub (L' := [(0, (Value.int .i64 (d : Int))), (1, (Value.slice (some ⟨bb, ob, none⟩) n cp)), (4, (Value.pointer (some ⟨b1, 0, none⟩)))]) ⟨rfl, rfl, rfl, trivial⟩
  refine then_n ?_
  refine wp_seq ?_
  refine wp_seq ?_
  refine wp_region_lit ?_
  refine wl (d_move rfl) rfl hF (fun a hF => ?_)
  refine wl_nil ?_
  have hF := hF.sub (L' := [(0, (Value.int .i64 (d : Int))), (1, (Value.slice (some ⟨bb, ob, none⟩) n cp)), (4, (Value.pointer (some ⟨b1, 0, none⟩))), (8, (Value.int .i64 0))]) ⟨rfl, rfl, rfl, rfl, trivial⟩
  refine then_n ?_
  refine wp_block ?_
  refine wp_loop_k (fun fu_ a w => ∃ i : Nat, fu_ = 256 - i ∧ (i ≤ 256) ∧ Frm a 40 [(0, (Value.int .i64 (d : Int))), (1, (Value.slice (some ⟨bb, ob, none⟩) n cp)), (4, (Value.pointer (some ⟨b1, 0, none⟩))), (8, (Value.int .i64 (i : Int)))] ∧ Mem w0 w [(b1, cl .u16 256 (to i (unp d B) (fun _ => 0)), 26)]) _ ⟨0, rfl, (by omega), hF.sub ⟨rfl, rfl, rfl, rfl, trivial⟩, ?_⟩ ?_
  · rw [to_zero]; exact hM
  rintro _ a w ⟨i, rfl, hl1_0, hF, hM⟩
  refine wp_seq ?_
  refine wp_region_lit ?_
  refine wl (d_lss rfl rfl) rfl hF (fun a hF => ?_)
  refine wl_nil ?_
  have hF := hF.sub (L' := [(0, (Value.int .i64 (d : Int))), (1, (Value.slice (some ⟨bb, ob, none⟩) n cp)), (4, (Value.pointer (some ⟨b1, 0, none⟩))), (8, (Value.int .i64 (i : Int))), (9, (Value.bool (decide ((i : Int) < 256))))]) ⟨rfl, rfl, rfl, rfl, rfl, trivial⟩
  refine then_n ?_
  refine wp_seq ?_
  refine wp_if hF rfl (fun h => ?_) (fun h => ?_)
  · have h1 := of_decide_eq_true h
    clear h
    refine wp_skip ?_
    refine then_n ?_
    refine wp_seq ?_
    refine wp_block ?_
    refine wp_seq ?_
    refine wp_region_lit ?_
    refine wl (d_move rfl) rfl hF (fun a hF => ?_)
    refine wl (d_assign rfl) rfl hF (fun a hF => ?_)
    refine wl_nil ?_
    have hF := hF.sub (L' := [(0, (Value.int .i64 (d : Int))), (1, (Value.slice (some ⟨bb, ob, none⟩) n cp)), (4, (Value.pointer (some ⟨b1, 0, none⟩))), (5, (Value.int .i64 (i : Int))), (8, (Value.int .i64 (i : Int))), (9, (Value.bool (decide ((i : Int) < 256))))]) ⟨rfl, rfl, rfl, rfl, rfl, rfl, trivial⟩
    refine then_n ?_
    refine wp_seq ?_
    refine wp_region_lit ?_
    refine wl (d_move rfl) rfl hF (fun a hF => ?_)
    refine wl (d_move rfl) rfl hF (fun a hF => ?_)
    refine wl_nil ?_
    have hF := hF.sub (L' := [(0, (Value.int .i64 (d : Int))), (1, (Value.slice (some ⟨bb, ob, none⟩) n cp)), (4, (Value.pointer (some ⟨b1, 0, none⟩))), (5, (Value.int .i64 (i : Int))), (8, (Value.int .i64 (i : Int))), (9, (Value.bool (decide ((i : Int) < 256)))), (11, (Value.int .i64 (d : Int))), (12, (Value.int .i64 0))]) ⟨rfl, rfl, rfl, rfl, rfl, rfl, rfl, rfl, trivial⟩
    refine then_n ?_
    refine wp_block ?_
    refine wp_loop_k (fun fu_ a w => ∃ k : Nat, fu_ = d - k ∧ (k ≤ d) ∧ Frm a 40 [(0, (Value.int .i64 (d : Int))), (1, (Value.slice (some ⟨bb, ob, none⟩) n cp)), (4, (Value.pointer (some ⟨b1, 0, none⟩))), (5, (Value.int .i64 (i : Int))), (8, (Value.int .i64 (i : Int))), (11, (Value.int .i64 (d : Int))), (12, (Value.int .i64 (k : Int)))] ∧ Mem w0 w [(b1, cl .u16 256 (upd (to i (unp d B) (fun _ => 0)) i (bsum (ubit B) (i * d) k)), 26)]) _ ⟨0, rfl, (by omega), hF.sub ⟨rfl, rfl, rfl, rfl, rfl, rfl, rfl, trivial⟩, ?_⟩ ?_
    · rw [upd_self (by rw [to_at]; rfl)]; exact hM
    rintro _ a w ⟨k, rfl, hl2_0, hF, hM⟩
    refine wp_seq ?_
    refine wp_region_lit ?_
    refine wl (d_lss rfl rfl) rfl hF (fun a hF => ?_)
    refine wl_nil ?_
    have hF := hF.sub (L' := [(0, (Value.int .i64 (d : Int))), (1, (Value.slice (some ⟨bb, ob, none⟩) n cp)), (4, (Value.pointer (some ⟨b1, 0, none⟩))), (5, (Value.int .i64 (i : Int))), (8, (Value.int .i64 (i : Int))), (11, (Value.int .i64 (d : Int))), (12, (Value.int .i64 (k : Int))), (13, (Value.bool (decide ((k : Int) < (d : Int)))))]) ⟨rfl, rfl, rfl, rfl, rfl, rfl, rfl, rfl, trivial⟩
    refine then_n ?_
    refine wp_seq ?_
    refine wp_if hF rfl (fun h => ?_) (fun h => ?_)
    · have h2 := of_decide_eq_true h
      clear h
      have hq : (i + 1) * d ≤ 256 * d := Nat.mul_le_mul_right d (by omega)
      rw [Nat.succ_mul] at hq
      have hat : (i * d + k) / 8 < n := by omega
      have hbb := hb _ hat
      have hbt := ubit_b B (i * d + k)
      have hsb := bsum_b (ubit_b B) (i * d) k
      have hpk := pow_le' (show k ≤ 11 by omega)
      simp at hpk
      have hs0 : 0 ≤ B ((i * d + k) / 8) / 2 ^ ((i * d + k) % 8) := Int.ediv_nonneg hbb.1 (Int.le_of_lt (pow_pos' _))
      have hs1 : B ((i * d + k) / 8) / 2 ^ ((i * d + k) % 8) ≤ B ((i * d + k) / 8) := Int.ediv_le_self _ hbb.1
      refine wp_skip ?_
      refine then_n ?_
      refine wp_seq ?_
      refine wp_block ?_
      refine wp_seq ?_
      refine wp_region_lit ?_
      refine wl (d_move rfl) rfl hF (fun a hF => ?_)
      refine wl (d_assign rfl) rfl hF (fun a hF => ?_)
      refine wl_nil ?_
      have hF := hF.sub (L' := [(0, (Value.int .i64 (d : Int))), (1, (Value.slice (some ⟨bb, ob, none⟩) n cp)), (4, (Value.pointer (some ⟨b1, 0, none⟩))), (5, (Value.int .i64 (i : Int))), (6, (Value.int .i64 (k : Int))), (8, (Value.int .i64 (i : Int))), (11, (Value.int .i64 (d : Int))), (12, (Value.int .i64 (k : Int))), (13, (Value.bool (decide ((k : Int) < (d : Int)))))]) ⟨rfl, rfl, rfl, rfl, rfl, rfl, rfl, rfl, rfl, trivial⟩
      refine then_n ?_
      refine wp_seq ?_
      refine wp_region_lit ?_
      refine wl (d_move rfl) rfl hF (fun a hF => ?_)
      refine wl (d_move rfl) rfl hF (fun a hF => ?_)
      refine wl (d_val (y := ((i * d : Nat) : Int)) (d_mul rfl rfl (wrap_i64 (by omega) (by omega))) (Int.natCast_mul i d).symm) rfl hF (fun a hF => ?_)
      refine wl (d_move rfl) rfl hF (fun a hF => ?_)
      refine wl (d_val (y := ((i * d + k : Nat) : Int)) (d_add rfl rfl (wrap_i64 (by omega) (by omega))) (by omega)) rfl hF (fun a hF => ?_)
      refine wl (d_assign rfl) rfl hF (fun a hF => ?_)
      refine wl_nil ?_
      have hF := hF.sub (L' := [(0, (Value.int .i64 (d : Int))), (1, (Value.slice (some ⟨bb, ob, none⟩) n cp)), (4, (Value.pointer (some ⟨b1, 0, none⟩))), (5, (Value.int .i64 (i : Int))), (6, (Value.int .i64 (k : Int))), (7, (Value.int .i64 ((i * d + k : Nat) : Int))), (8, (Value.int .i64 (i : Int))), (11, (Value.int .i64 (d : Int))), (12, (Value.int .i64 (k : Int))), (13, (Value.bool (decide ((k : Int) < (d : Int)))))]) ⟨rfl, rfl, rfl, rfl, rfl, rfl, rfl, rfl, rfl, rfl, trivial⟩
      refine then_n ?_
      refine region_plan Tt mo (fun ph_ w => Mem w0 w (([[(b1, cl .u16 256 (upd (to i (unp d B) (fun _ => 0)) i (bsum (ubit B) (i * d) k)), 26)], [(b1, cl .u16 256 (upd (upd (to i (unp d B) (fun _ => 0)) i (bsum (ubit B) (i * d) k)) i (bsum (ubit B) (i * d) k + ubit B (i * d + k) * 2 ^ k)), 26)]] : List (List Blk)).getD ph_ [])) [17] (rows := [⟨[], [(5, (Value.int .i64 (i : Int)))], [0], .val (Value.int .i64 (i : Int))⟩, ⟨[(0, 20)], [(4, (Value.pointer (some ⟨b1, 0, none⟩)))], [0], .val (Value.pointer (some ⟨b1, i, none⟩))⟩, ⟨[(1, 21)], [], [0], .val (Value.int .u16 (bsum (ubit B) (i * d) k))⟩, ⟨[], [(1, (Value.slice (some ⟨bb, ob, none⟩) n cp))], [0], .val (Value.slice (some ⟨bb, ob, none⟩) n cp)⟩, ⟨[], [(7, (Value.int .i64 ((i * d + k : Nat) : Int)))], [0], .val (Value.int .i64 ((i * d + k : Nat) : Int))⟩, ⟨[(4, 24)], [], [0], .val (Value.int .i64 (((i * d + k) / 8 : Nat) : Int))⟩, ⟨[(3, 23), (5, 25)], [], [0], .val (Value.pointer (some ⟨bb, ob + (i * d + k) / 8, none⟩))⟩, ⟨[(6, 26)], [], [0], .val (Value.int .u8 (B ((i * d + k) / 8)))⟩, ⟨[], [(7, (Value.int .i64 ((i * d + k : Nat) : Int)))], [0], .val (Value.int .i64 ((i * d + k : Nat) : Int))⟩, ⟨[(8, 28)], [], [0], .val (Value.int .i64 (((i * d + k) % 8 : Nat) : Int))⟩, ⟨[(7, 27), (9, 29)], [], [0], .val (Value.int .u8 (B ((i * d + k) / 8) / 2 ^ ((i * d + k) % 8)))⟩, ⟨[(10, 30)], [], [0], .val (Value.int .u8 (ubit B (i * d + k)))⟩, ⟨[(11, 31)], [], [0], .val (Value.int .u16 (ubit B (i * d + k)))⟩, ⟨[], [(6, (Value.int .i64 (k : Int)))], [0], .val (Value.int .i64 (k : Int))⟩, ⟨[(12, 32), (13, 33)], [], [0], .val (Value.int .u16 (ubit B (i * d + k) * 2 ^ k))⟩, ⟨[(2, 22), (14, 34)], [], [0], .val (Value.int .u16 (bsum (ubit B) (i * d) k + ubit B (i * d + k) * 2 ^ k))⟩, ⟨[(0, 20)], [(4, (Value.pointer (some ⟨b1, 0, none⟩)))], [0], .val (Value.pointer (some ⟨b1, i, none⟩))⟩, ⟨[(16, 36), (15, 35)], [], [0], .rel (fun _ _ => True) (fun _ _ _ _ _ => trivial)⟩]) (by kernel_rfl) hF hM.drew ?_ ?_
      · refine ⟨?_, ?_, ?_, ?_, ?_, ?_, ?_, ?_, ?_, ?_, ?_, ?_, ?_, ?_, ?_, ?_, ?_, ?_, trivial⟩
        · exact ⟨⟨rfl, trivial⟩, fun ph_ _ vs w hW _ => Det.ob hW (d_move rfl)⟩
        · exact ⟨⟨rfl, trivial⟩, fun ph_ _ vs w hW _ => Det.ob hW (d_ixA0 (j := i) Try.underlying26 sz24 rfl rfl rfl (by omega))⟩
        · refine ⟨trivial, fun ph_ hp_ vs w hW _ => ?_⟩
          obtain rfl := memN_one hp_
          have hM : Mem w0 w [(b1, cl .u16 256 (upd (to i (unp d B) (fun _ => 0)) i (bsum (ubit B) (i * d) k)), 26)] := hW
          exact Det.ob hW (d_load1 Try.underlying24 rfl rfl (hM.cell 0 rfl (by rw [cl_get (by omega), upd_same])))
        · exact ⟨⟨rfl, trivial⟩, fun ph_ _ vs w hW _ => Det.ob hW (d_move rfl)⟩
        · exact ⟨⟨rfl, trivial⟩, fun ph_ _ vs w hW _ => Det.ob hW (d_move rfl)⟩
        · exact ⟨trivial, fun ph_ _ vs w hW _ => Det.ob hW (d_val (y := (((i * d + k) / 8 : Nat) : Int)) (d_quo rfl rfl (by omega) (quo_i64 (by omega) (by omega) (by omega))) (by omega))⟩
        · exact ⟨trivial, fun ph_ _ vs w hW _ => Det.ob hW (d_ixS (j := (i * d + k) / 8) Try.underlying39 sz5 rfl rfl rfl (by omega))⟩
        · refine ⟨trivial, fun ph_ hp_ vs w hW _ => ?_⟩
          obtain rfl := memN_one hp_
          have hM : Mem w0 w [(b1, cl .u16 256 (upd (to i (unp d B) (fun _ => 0)) i (bsum (ubit B) (i * d) k)), 26)] := hW
          exact Det.ob hW (d_load1 Try.underlying5 rfl rfl (hM.old (hB _ hat)))
        · exact ⟨⟨rfl, trivial⟩, fun ph_ _ vs w hW _ => Det.ob hW (d_move rfl)⟩
        · exact ⟨trivial, fun ph_ _ vs w hW _ => Det.ob hW (d_val (y := (((i * d + k) % 8 : Nat) : Int)) (d_rem rfl rfl (by omega) (tmod_pos (by omega))) (by omega))⟩
        · exact ⟨trivial, fun ph_ _ vs w hW _ => Det.ob hW (d_shr rfl rfl (by omega) (shr_u8 (by omega)))⟩
        · exact ⟨trivial, fun ph_ _ vs w hW _ => Det.ob hW (d_val (y := (ubit B (i * d + k))) (d_and rfl rfl (and1_u8 hs0 (by omega))) rfl)⟩
        · exact ⟨trivial, fun ph_ _ vs w hW _ => Det.ob hW (d_conv Try.underlying5 Try.underlying24 rfl (wrap_u16 (by omega) (by omega)))⟩
        · exact ⟨⟨rfl, trivial⟩, fun ph_ _ vs w hW _ => Det.ob hW (d_move rfl)⟩
        · exact ⟨trivial, fun ph_ _ vs w hW _ => Det.ob hW (d_shl rfl rfl (by omega) (shlbit_u16 hbt.1 hbt.2 (by omega)))⟩
        · exact ⟨trivial, fun ph_ _ vs w hW _ => Det.ob hW (d_or rfl rfl (or_u16 (by omega) hsb.1 hsb.2 hbt.1 hbt.2))⟩
        · exact ⟨⟨rfl, trivial⟩, fun ph_ _ vs w hW _ => Det.ob hW (d_ixA0 (j := i) Try.underlying26 sz24 rfl rfl rfl (by omega))⟩
        · refine ⟨trivial, fun ph_ hp_ vs w hW _ => ?_⟩
          obtain rfl := memN_one hp_
          have hM : Mem w0 w [(b1, cl .u16 256 (upd (to i (unp d B) (fun _ => 0)) i (bsum (ubit B) (i * d) k)), 26)] := hW
          exact Ok1.obs (fun w' hu => by rw [cl_set] at hu; exact hM.upd 0 rfl hu) (ok_store1 (v := (Value.int .u16 (bsum (ubit B) (i * d) k + ubit B (i * d + k) * 2 ^ k))) sz24 rfl rfl rfl (hM.at 0 rfl) (by rw [cl_size]; omega))
      · intro a w vs hW _ hF
        have hM : Mem w0 w [(b1, cl .u16 256 (upd (upd (to i (unp d B) (fun _ => 0)) i (bsum (ubit B) (i * d) k)) i (bsum (ubit B) (i * d) k + ubit B (i * d + k) * 2 ^ k)), 26)] := hW
        have hF := hF.sub (L' := [(0, (Value.int .i64 (d : Int))), (1, (Value.slice (some ⟨bb, ob, none⟩) n cp)), (4, (Value.pointer (some ⟨b1, 0, none⟩))), (5, (Value.int .i64 (i : Int))), (6, (Value.int .i64 (k : Int))), (7, (Value.int .i64 ((i * d + k : Nat) : Int))), (8, (Value.int .i64 (i : Int))), (11, (Value.int .i64 (d : Int))), (12, (Value.int .i64 (k : Int))), (13, (Value.bool (decide ((k : Int) < (d : Int)))))]) ⟨rfl, rfl, rfl, rfl, rfl, rfl, rfl, rfl, rfl, rfl, trivial⟩
        refine block_n ?_
        refine then_n ?_
        refine wp_region_lit ?_
        refine wl (d_add rfl rfl (wrap_i64 (by omega) (by omega))) rfl hF (fun a hF => ?_)
        refine wl (d_move rfl) rfl hF (fun a hF => ?_)
        refine wl_nil ?_
        have hF := hF.sub (L' := [(0, (Value.int .i64 (d : Int))), (1, (Value.slice (some ⟨bb, ob, none⟩) n cp)), (4, (Value.pointer (some ⟨b1, 0, none⟩))), (5, (Value.int .i64 (i : Int))), (6, (Value.int .i64 (k : Int))), (7, (Value.int .i64 ((i * d + k : Nat) : Int))), (8, (Value.int .i64 (i : Int))), (11, (Value.int .i64 (d : Int))), (12, (Value.int .i64 ((k : Int) + 1))), (13, (Value.bool (decide ((k : Int) < (d : Int)))))]) ⟨rfl, rfl, rfl, rfl, rfl, rfl, rfl, rfl, rfl, rfl, trivial⟩
        refine then_n ?_
        refine ⟨_, ?_, k + 1, rfl, (by omega), hF.sub ⟨rfl, rfl, rfl, rfl, rfl, rfl, rfl, trivial⟩, ?_⟩
        · omega
        rw [upd_upd] at hM
        exact hM
    · have h2 := of_decide_eq_false h
      clear h
      have hk : k = d := by omega
      rw [hk, to_step (H := unp d B) (by rfl)] at hM
      refine wp_exit ?_
      refine then_exit ?_
      refine then_exit ?_
      refine block_exit ?_
      refine block_n ?_
      refine then_n ?_
      refine wp_region_lit ?_
      refine wl (d_add rfl rfl (wrap_i64 (by omega) (by omega))) rfl hF (fun a hF => ?_)
      refine wl (d_move rfl) rfl hF (fun a hF => ?_)
      refine wl_nil ?_
      have hF := hF.sub (L' := [(0, (Value.int .i64 (d : Int))), (1, (Value.slice (some ⟨bb, ob, none⟩) n cp)), (4, (Value.pointer (some ⟨b1, 0, none⟩))), (5, (Value.int .i64 (i : Int))), (8, (Value.int .i64 ((i : Int) + 1))), (11, (Value.int .i64 (d : Int))), (12, (Value.int .i64 (k : Int))), (13, (Value.bool (decide ((k : Int) < (d : Int)))))]) ⟨rfl, rfl, rfl, rfl, rfl, rfl, rfl, rfl, trivial⟩
      refine then_n ?_
      refine ⟨_, ?_, i + 1, rfl, (by omega), hF.sub ⟨rfl, rfl, rfl, rfl, trivial⟩, ?_⟩
      · omega
      exact hM
  · have h1 := of_decide_eq_false h
    clear h
    have hi : i = 256 := by omega
    rw [hi, to_all] at hM
    refine wp_exit ?_
    refine then_exit ?_
    refine then_exit ?_
    refine block_exit ?_
    refine then_n ?_
    refine wp_seq ?_
    refine wp_region_lit ?_
    refine wl (d_loadA Try.underlying26 rfl sz26 rfl (hM.at 0 rfl) (cl_size _ _ _)) rfl hF (fun a hF => ?_)
    refine wl0R (ok_storeA (c' := cl .u16 256 (unp d B)) sz26 rfl rfl (cl_size _ _ _) (cl_one _ _ _) (hM.at 0 rfl) (cl_size _ _ _)) hF ?_
    rintro w a hu hF
    have hM : Mem w0 w [(b1, cl .u16 256 (unp d B), 26)] := hM.upd 0 rfl hu
    refine wl_nil ?_
    have hF := hF.sub (L' := [(0, (Value.int .i64 (d : Int))), (1, (Value.slice (some ⟨bb, ob, none⟩) n cp)), (4, (Value.pointer (some ⟨b1, 0, none⟩))), (8, (Value.int .i64 (i : Int))), (9, (Value.bool (decide ((i : Int) < 256))))]) ⟨rfl, rfl, rfl, rfl, rfl, trivial⟩
    refine then_n ?_
    refine wp_ret ?_
    refine body_ret hF (results1 Try.results39 (RV.cellA Try.underlying26 rfl sz26 hF rfl (hM.at 0 rfl) (cl_size _ _ _))) ?_
    exact ⟨rfl, hM.below⟩

set_option maxRecDepth 100000 in
theorem Decode_calls {d n bb ob cp : Nat} {B : Nat → Int} (hd : 1 ≤ d ∧ d ≤ 12) (hmay : d = 12 → sMay (unp d B) = true) (hn : n = 32 * d) {w0 : World} (hB : ∀ j, j < n → w0.cell? ⟨bb, ob + j, none⟩ = some (.int .u8 (B j))) (hb : ∀ j, j < n → 0 ≤ B j ∧ B j < 256) : Calls Try.prog 28 (List.toArray [.int .i64 (d : Int), .slice (some ⟨bb, ob, none⟩) n cp]) w0 (Ret fun v w' => (v = .tuple #[.agg (cl .u16 256 (unp d B)), .int .i64 0]) ∧ Gr w0 w') := by
  refine calls_of Try.func28 rfl Try.ntmps28 rfl fun a hF => ?_
  have hM := Mem.start w0
  have hF := hF.sub (L' := [(0, (Value.int .i64 (d : Int))), (1, (Value.slice (some ⟨bb, ob, none⟩) n cp))]) ⟨rfl, rfl, trivial⟩
  refine wp_seq ?_
  refine wp_region_lit ?_
  refine wlR (ok_alloc z26) rfl hF ?_
  rintro _ w a ⟨b1, rfl, hnb_⟩ hF
  have hM : Mem w0 w [(b1, cl .u16 256 fun _ => 0, 26)] := hM.alloc hnb_
  refine wl (d_assign rfl) rfl hF (fun a hF => ?_)
  refine wl_nil ?_
  have hF := hF.sub (L' := [(0, (Value.int .i64 (d : Int))), (1, (Value.slice (some ⟨bb, ob, none⟩) n cp)), (4, (Value.pointer (some ⟨b1, 0, none⟩))), (5, (Value.int .i64 0))]) ⟨rfl, rfl, rfl, rfl, trivial⟩
  refine then_n ?_
  refine wp_seq ?_
  refine wp_seq ?_
  refine wp_region_lit ?_
  refine wl (d_move rfl) rfl hF (fun a hF => ?_)
  refine wl (d_bool (c := false) (d_lss rfl rfl) (decide_eq_false (by omega))) rfl hF (fun a hF => ?_)
  refine wl (d_move rfl) rfl hF (fun a hF => ?_)
  refine wlg rfl (d_move rfl) rfl hF (fun a hF => ?_)
  refine wlg rfl (d_bool (c := false) (d_gtr rfl rfl) (decide_eq_false (by omega))) rfl hF (fun a hF => ?_)
  refine wl (d_pick (b := false) rfl rfl) rfl hF (fun a hF => ?_)
  refine wl_nil ?_
  have hF := hF.sub (L' := [(0, (Value.int .i64 (d : Int))), (1, (Value.slice (some ⟨bb, ob, none⟩) n cp)), (4, (Value.pointer (some ⟨b1, 0, none⟩))), (5, (Value.int .i64 0)), (12, (Value.bool false))]) ⟨rfl, rfl, rfl, rfl, rfl, trivial⟩
  refine then_n ?_
  refine wp_cond_false (hF.eval rfl) ?_
  refine wp_skip ?_
  refine then_n ?_
  refine wp_seq ?_
  refine wp_seq ?_
  refine wp_region_lit ?_
  refine wl (d_move rfl) rfl hF (fun a hF => ?_)
  refine wl (d_len_slice Try.underlying39 rfl) rfl hF (fun a hF => ?_)
  refine wl (d_move rfl) rfl hF (fun a hF => ?_)
  refine wl (d_mul rfl rfl (wrap_i64 (by omega) (by omega))) rfl hF (fun a hF => ?_)
  refine wl (d_bool (c := false) (d_neq rfl rfl) (by rw [decide_eq_true (by omega)]; try rfl)) rfl hF (fun a hF => ?_)
  refine wl_nil ?_
  have hF := hF.sub (L' := [(0, (Value.int .i64 (d : Int))), (1, (Value.slice (some ⟨bb, ob, none⟩) n cp)), (4, (Value.pointer (some ⟨b1, 0, none⟩))), (5, (Value.int .i64 0)), (12, (Value.bool false)), (18, (Value.bool false))]) ⟨rfl, rfl, rfl, rfl, rfl, rfl, trivial⟩
  refine then_n ?_
  refine wp_cond_false (hF.eval rfl) ?_
  refine wp_skip ?_
  refine then_n ?_
  refine wp_seq ?_
  refine wp_region_lit ?_
  refine wl (d_move rfl) rfl hF (fun a hF => ?_)
  refine wl (d_move rfl) rfl hF (fun a hF => ?_)
  refine wlR (ok_call c39 rfl (Unpack_calls hd hn (fun j hj => hM.old (hB j hj)) hb)) rfl hF ?_
  rintro _ w a ⟨rfl, hg⟩ hF
  have hM := hM.call hg
  refine wlR (ok_alloc z26) rfl hF ?_
  rintro _ w a ⟨b2, rfl, hnb_⟩ hF
  have hM : Mem w0 w [(b1, cl .u16 256 fun _ => 0, 26), (b2, cl .u16 256 fun _ => 0, 26)] := hM.alloc hnb_
  refine wl0R (ok_storeA (c' := cl .u16 256 (unp d B)) sz26 rfl rfl (cl_size _ _ _) (cl_one _ _ _) (hM.at 1 rfl) (cl_size _ _ _)) hF ?_
  rintro w a hu hF
  have hM : Mem w0 w [(b1, cl .u16 256 fun _ => 0, 26), (b2, cl .u16 256 (unp d B), 26)] := hM.upd 1 rfl hu
  refine wl_nil ?_
  have hF := hF.sub (L' := [(0, (Value.int .i64 (d : Int))), (1, (Value.slice (some ⟨bb, ob, none⟩) n cp)), (4, (Value.pointer (some ⟨b1, 0, none⟩))), (5, (Value.int .i64 0)), (6, (Value.pointer (some ⟨b2, 0, none⟩))), (12, (Value.bool false)), (18, (Value.bool false))]) ⟨rfl, rfl, rfl, rfl, rfl, rfl, rfl, trivial⟩
  refine then_n ?_
  refine wp_seq ?_
  refine wp_seq ?_
  refine wp_region_lit ?_
  refine wl (d_move rfl) rfl hF (fun a hF => ?_)
  refine wl (d_eql rfl rfl) rfl hF (fun a hF => ?_)
  refine wl (d_move rfl) rfl hF (fun a hF => ?_)
  by_cases h12 : (d : Int) = 12
  · have hdec_ : decide ((d : Int) = 12) = true := decide_eq_true h12
    rw [hdec_] at hF
    refine wlg rfl (d_loadA Try.underlying26 rfl sz26 rfl (hM.at 1 rfl) (cl_size _ _ _)) rfl hF (fun a hF => ?_)
    refine wlgR rfl (ok_call c21 rfl (May_calls (fun j _ => by have h1 := unp_b d B j; have h2 := pow_le' hd.2; simp at h2; omega) _)) rfl hF ?_
    rintro _ w a ⟨rfl, hg⟩ hF
    have hM := hM.call hg
    refine wlg rfl (d_bool (c := false) (d_not rfl) (by rw [hmay (by omega)]; try rfl)) rfl hF (fun a hF => ?_)
    refine wl (d_pick (b := true) rfl rfl) rfl hF (fun a hF => ?_)
    refine wl_nil ?_
    have hF := hF.sub (L' := [(0, (Value.int .i64 (d : Int))), (1, (Value.slice (some ⟨bb, ob, none⟩) n cp)), (4, (Value.pointer (some ⟨b1, 0, none⟩))), (5, (Value.int .i64 0)), (6, (Value.pointer (some ⟨b2, 0, none⟩))), (12, (Value.bool false)), (18, (Value.bool false)), (29, (Value.bool false))]) ⟨rfl, rfl, rfl, rfl, rfl, rfl, rfl, rfl, trivial⟩
    refine then_n ?_
    refine wp_cond_false (hF.eval rfl) ?_
    refine wp_skip ?_
    refine then_n ?_
    refine wp_seq ?_
    refine wp_region_lit ?_
    refine wl (d_loadA Try.underlying26 rfl sz26 rfl (hM.at 1 rfl) (cl_size _ _ _)) rfl hF (fun a hF => ?_)
    refine wl0R (ok_storeA (c' := cl .u16 256 (unp d B)) sz26 rfl rfl (cl_size _ _ _) (cl_one _ _ _) (hM.at 0 rfl) (cl_size _ _ _)) hF ?_
    rintro w a hu hF
    have hM : Mem w0 w [(b1, cl .u16 256 (unp d B), 26), (b2, cl .u16 256 (unp d B), 26)] := hM.upd 0 rfl hu
    refine wl (d_assign rfl) rfl hF (fun a hF => ?_)
    refine wl_nil ?_
    have hF := hF.sub (L' := [(0, (Value.int .i64 (d : Int))), (1, (Value.slice (some ⟨bb, ob, none⟩) n cp)), (4, (Value.pointer (some ⟨b1, 0, none⟩))), (5, (Value.int .i64 0)), (6, (Value.pointer (some ⟨b2, 0, none⟩))), (12, (Value.bool false)), (18, (Value.bool false)), (29, (Value.bool false))]) ⟨rfl, rfl, rfl, rfl, rfl, rfl, rfl, rfl, trivial⟩
    refine then_n ?_
    refine wp_ret ?_
    refine body_ret hF (results2 Try.results28 (RV.cellA Try.underlying26 rfl sz26 hF rfl (hM.at 0 rfl) (cl_size _ _ _)) (RV.tmp hF rfl)) ?_
    exact ⟨rfl, hM.below⟩
  · have hdec_ : decide ((d : Int) = 12) = false := decide_eq_false h12
    rw [hdec_] at hF
    refine wlgs (c := false) rfl rfl rfl hF (fun a hF => ?_)
    refine wlgs (c := false) rfl rfl rfl hF (fun a hF => ?_)
    refine wlgs (c := false) rfl rfl rfl hF (fun a hF => ?_)
    refine wl (d_pick (b := false) rfl rfl) rfl hF (fun a hF => ?_)
    refine wl_nil ?_
    have hF := hF.sub (L' := [(0, (Value.int .i64 (d : Int))), (1, (Value.slice (some ⟨bb, ob, none⟩) n cp)), (4, (Value.pointer (some ⟨b1, 0, none⟩))), (5, (Value.int .i64 0)), (6, (Value.pointer (some ⟨b2, 0, none⟩))), (12, (Value.bool false)), (18, (Value.bool false)), (29, (Value.bool false))]) ⟨rfl, rfl, rfl, rfl, rfl, rfl, rfl, rfl, trivial⟩
    refine then_n ?_
    refine wp_cond_false (hF.eval rfl) ?_
    refine wp_skip ?_
    refine then_n ?_
    refine wp_seq ?_
    refine wp_region_lit ?_
    refine wl (d_loadA Try.underlying26 rfl sz26 rfl (hM.at 1 rfl) (cl_size _ _ _)) rfl hF (fun a hF => ?_)
    refine wl0R (ok_storeA (c' := cl .u16 256 (unp d B)) sz26 rfl rfl (cl_size _ _ _) (cl_one _ _ _) (hM.at 0 rfl) (cl_size _ _ _)) hF ?_
    rintro w a hu hF
    have hM : Mem w0 w [(b1, cl .u16 256 (unp d B), 26), (b2, cl .u16 256 (unp d B), 26)] := hM.upd 0 rfl hu
    refine wl (d_assign rfl) rfl hF (fun a hF => ?_)
    refine wl_nil ?_
    have hF := hF.sub (L' := [(0, (Value.int .i64 (d : Int))), (1, (Value.slice (some ⟨bb, ob, none⟩) n cp)), (4, (Value.pointer (some ⟨b1, 0, none⟩))), (5, (Value.int .i64 0)), (6, (Value.pointer (some ⟨b2, 0, none⟩))), (12, (Value.bool false)), (18, (Value.bool false)), (29, (Value.bool false))]) ⟨rfl, rfl, rfl, rfl, rfl, rfl, rfl, rfl, trivial⟩
    refine then_n ?_
    refine wp_ret ?_
    refine body_ret hF (results2 Try.results28 (RV.cellA Try.underlying26 rfl sz26 hF rfl (hM.at 0 rfl) (cl_size _ _ _)) (RV.tmp hF rfl)) ?_
    exact ⟨rfl, hM.below⟩

set_option maxRecDepth 100000 in
theorem Compress_calls {F : Nat → Int} {d : Nat} (hf : U16 F) (hd : 1 ≤ d ∧ d ≤ 11) (w0 : World) : Calls Try.prog 29 (List.toArray [.agg (cl .u16 256 F), .int .i64 (d : Int)]) w0 (Ret fun v w' => (v = .tuple #[.agg (cl .u16 256 (comp d F)), .int .i64 0]) ∧ Gr w0 w') := by
  refine calls_of Try.func29 rfl Try.ntmps29 rfl fun a hF => ?_
  have hM := Mem.start w0
  have hF := hF.sub (L' := [(0, (Value.agg (cl .u16 256 F))), (1, (Value.int .i64 (d : Int)))]) ⟨rfl, rfl, trivial⟩
  refine wp_seq ?_
  refine wp_region_lit ?_
  refine wlR (ok_box rfl) rfl hF ?_
  rintro _ w a ⟨b1, rfl, hnb_⟩ hF
  have hM : Mem w0 w [(b1, cl .u16 256 F, 26)] := hM.alloc hnb_
  refine wlR (ok_alloc z26) rfl hF ?_
  rintro _ w a ⟨b2, rfl, hnb_⟩ hF
  have hM : Mem w0 w [(b1, cl .u16 256 F, 26), (b2, cl .u16 256 fun _ => 0, 26)] := hM.alloc hnb_
  refine wl (d_assign rfl) rfl hF (fun a hF => ?_)
  refine wl_nil ?_
  have hF := hF.sub (L' := [(0, (Value.agg (cl .u16 256 F))), (1, (Value.int .i64 (d : Int))), (2, (Value.pointer (some ⟨b1, 0, none⟩))), (4, (Value.pointer (some ⟨b2, 0, none⟩))), (5, (Value.int .i64 0))]) ⟨rfl, rfl, rfl, rfl, rfl, trivial⟩
  refine then_n ?_
  refine wp_seq ?_
  refine wp_seq ?_
  refine wp_region_lit ?_
  refine wl (d_move rfl) rfl hF (fun a hF => ?_)
  refine wl (d_bool (c := false) (d_lss rfl rfl) (decide_eq_false (by omega))) rfl hF (fun a hF => ?_)
  refine wl (d_move rfl) rfl hF (fun a hF => ?_)
  refine wlg rfl (d_move rfl) rfl hF (fun a hF => ?_)
  refine wlg rfl (d_bool (c := false) (d_geq rfl rfl) (decide_eq_false (by omega))) rfl hF (fun a hF => ?_)
  refine wl (d_pick (b := false) rfl rfl) rfl hF (fun a hF => ?_)
  refine wl_nil ?_
  have hF := hF.sub (L' := [(0, (Value.agg (cl .u16 256 F))), (1, (Value.int .i64 (d : Int))), (2, (Value.pointer (some ⟨b1, 0, none⟩))), (4, (Value.pointer (some ⟨b2, 0, none⟩))), (5, (Value.int .i64 0)), (13, (Value.bool false))]) ⟨rfl, rfl, rfl, rfl, rfl, rfl, trivial⟩
  refine then_n ?_
  refine wp_cond_false (hF.eval rfl) ?_
  refine wp_skip ?_
  refine then_n ?_
  refine wp_seq ?_
  refine wp_seq ?_
  refine wp_region_lit ?_
  refine wl (d_loadA Try.underlying26 rfl sz26 rfl (hM.at 0 rfl) (cl_size _ _ _)) rfl hF (fun a hF => ?_)
  refine wl (d_move rfl) rfl hF (fun a hF => ?_)
  refine wl_nil ?_
  have hF := hF.sub (L' := [(0, (Value.agg (cl .u16 256 F))), (1, (Value.int .i64 (d : Int))), (2, (Value.pointer (some ⟨b1, 0, none⟩))), (4, (Value.pointer (some ⟨b2, 0, none⟩))), (5, (Value.int .i64 0)), (13, (Value.bool false)), (15, (Value.agg (cl .u16 256 F))), (16, (Value.int .i64 0))]) ⟨rfl, rfl, rfl, rfl, rfl, rfl, rfl, rfl, trivial⟩
  refine then_n ?_
  refine wp_block ?_
  refine wp_loop_k (fun fu_ a w => ∃ i : Nat, fu_ = 256 - i ∧ (i ≤ 256) ∧ Frm a 37 [(1, (Value.int .i64 (d : Int))), (2, (Value.pointer (some ⟨b1, 0, none⟩))), (4, (Value.pointer (some ⟨b2, 0, none⟩))), (15, (Value.agg (cl .u16 256 F))), (16, (Value.int .i64 (i : Int)))] ∧ Mem w0 w [(b1, cl .u16 256 (to i (comp d F) F), 26), (b2, cl .u16 256 fun _ => 0, 26)]) _ ⟨0, rfl, (by omega), hF.sub ⟨rfl, rfl, rfl, rfl, rfl, trivial⟩, ?_⟩ ?_
  · rw [to_zero]; exact hM
  rintro _ a w ⟨i, rfl, hl1_0, hF, hM⟩
  refine wp_seq ?_
  refine wp_region_lit ?_
  refine wl (d_lss rfl rfl) rfl hF (fun a hF => ?_)
  refine wl_nil ?_
  have hF := hF.sub (L' := [(1, (Value.int .i64 (d : Int))), (2, (Value.pointer (some ⟨b1, 0, none⟩))), (4, (Value.pointer (some ⟨b2, 0, none⟩))), (15, (Value.agg (cl .u16 256 F))), (16, (Value.int .i64 (i : Int))), (17, (Value.bool (decide ((i : Int) < 256))))]) ⟨rfl, rfl, rfl, rfl, rfl, rfl, trivial⟩
  refine then_n ?_
  refine wp_seq ?_
  refine wp_if hF rfl (fun h => ?_) (fun h => ?_)
  · have h1 := of_decide_eq_true h
    clear h
    have hfi := hf i (by omega)
    have hp := pow_pos' d
    have hp2 := pow_le' hd.2
    simp at hp2
    have hp3 := pow_pos' (d + 1)
    have hp4 := pow_le' (show d + 1 ≤ 12 by omega)
    simp at hp4
    have hx : 0 ≤ F i % 3329 * 2 ^ (d + 1) ∧ F i % 3329 * 2 ^ (d + 1) ≤ 13631488 := ⟨Int.mul_nonneg (by omega) (by omega), Int.mul_le_mul (show F i % 3329 ≤ 3328 by omega) hp4 (by omega) (by omega)⟩
    have hc := comp_b d F i
    refine wp_skip ?_
    refine then_n ?_
    refine wp_seq ?_
    refine wp_block ?_
    refine wp_seq ?_
    refine wp_region_lit ?_
    refine wl (d_move rfl) rfl hF (fun a hF => ?_)
    refine wl (d_indexN (j := i) Try.underlying26 Try.underlying24 rfl sz24 rfl rfl rfl (by omega) (cl_get (by omega))) rfl hF (fun a hF => ?_)
    refine wl (d_assign rfl) rfl hF (fun a hF => ?_)
    refine wl (d_assign rfl) rfl hF (fun a hF => ?_)
    refine wl_nil ?_
    have hF := hF.sub (L' := [(1, (Value.int .i64 (d : Int))), (2, (Value.pointer (some ⟨b1, 0, none⟩))), (4, (Value.pointer (some ⟨b2, 0, none⟩))), (6, (Value.int .i64 (i : Int))), (7, (Value.int .u16 (F i))), (15, (Value.agg (cl .u16 256 F))), (16, (Value.int .i64 (i : Int))), (17, (Value.bool (decide ((i : Int) < 256))))]) ⟨rfl, rfl, rfl, rfl, rfl, rfl, rfl, rfl, trivial⟩
    refine then_n ?_
    refine region_plan Tt mo (fun ph_ w => Mem w0 w (([[(b1, cl .u16 256 (to i (comp d F) F), 26), (b2, cl .u16 256 fun _ => 0, 26)], [(b1, cl .u16 256 (upd (to i (comp d F) F) i (comp d F i)), 26), (b2, cl .u16 256 fun _ => 0, 26)]] : List (List Blk)).getD ph_ [])) [15] (rows := [⟨[], [(6, (Value.int .i64 (i : Int)))], [0], .val (Value.int .i64 (i : Int))⟩, ⟨[], [(7, (Value.int .u16 (F i)))], [0], .val (Value.int .u16 (F i))⟩, ⟨[(1, 21)], [], [0], .val (Value.int .u16 (F i % 3329))⟩, ⟨[(2, 22)], [], [0], .val (Value.int .u32 (F i % 3329))⟩, ⟨[], [(1, (Value.int .i64 (d : Int)))], [0], .val (Value.int .i64 (d : Int))⟩, ⟨[(4, 24)], [], [0], .val (Value.int .i64 ((d + 1 : Nat) : Int))⟩, ⟨[(3, 23), (5, 25)], [], [0], .val (Value.int .u32 (F i % 3329 * 2 ^ (d + 1)))⟩, ⟨[(6, 26)], [], [0], .val (Value.int .u32 ((F i % 3329 * 2 ^ (d + 1)) + 3329))⟩, ⟨[(7, 27)], [], [0], .val (Value.int .u32 (((F i % 3329 * 2 ^ (d + 1)) + 3329) / 6658))⟩, ⟨[], [(1, (Value.int .i64 (d : Int)))], [0], .val (Value.int .i64 (d : Int))⟩, ⟨[(9, 29)], [], [0], .val (Value.int .u32 (2 ^ d))⟩, ⟨[(10, 30)], [], [0], .val (Value.int .u32 (2 ^ d - 1))⟩, ⟨[(8, 28), (11, 31)], [], [0], .val (Value.int .u32 (comp d F i))⟩, ⟨[(12, 32)], [], [0], .val (Value.int .u16 (comp d F i))⟩, ⟨[(0, 20)], [(2, (Value.pointer (some ⟨b1, 0, none⟩)))], [0], .val (Value.pointer (some ⟨b1, i, none⟩))⟩, ⟨[(14, 34), (13, 33)], [], [0], .rel (fun _ _ => True) (fun _ _ _ _ _ => trivial)⟩]) (by kernel_rfl) hF hM.drew ?_ ?_
    · refine ⟨?_, ?_, ?_, ?_, ?_, ?_, ?_, ?_, ?_, ?_, ?_, ?_, ?_, ?_, ?_, ?_, trivial⟩
      · exact ⟨⟨rfl, trivial⟩, fun ph_ _ vs w hW _ => Det.ob hW (d_move rfl)⟩
      · exact ⟨⟨rfl, trivial⟩, fun ph_ _ vs w hW _ => Det.ob hW (d_move rfl)⟩
      · exact ⟨trivial, fun ph_ _ vs w hW _ => Det.ob hW (d_rem rfl rfl (by omega) (tmod_pos (by omega)))⟩
      · exact ⟨trivial, fun ph_ _ vs w hW _ => Det.ob hW (d_conv Try.underlying24 Try.underlying53 rfl (wrap_u32 (by omega) (by omega)))⟩
      · exact ⟨⟨rfl, trivial⟩, fun ph_ _ vs w hW _ => Det.ob hW (d_move rfl)⟩
      · exact ⟨trivial, fun ph_ _ vs w hW _ => Det.ob hW (d_val (y := ((d + 1 : Nat) : Int)) (d_add rfl rfl (wrap_i64 (by omega) (by omega))) (by omega))⟩
      · exact ⟨trivial, fun ph_ _ vs w hW _ => Det.ob hW (d_shl rfl rfl (by omega) (shl_u32 (d := d + 1) (by omega) (by omega) (by omega)))⟩
      · exact ⟨trivial, fun ph_ _ vs w hW _ => Det.ob hW (d_add rfl rfl (wrap_u32 (by omega) (by omega)))⟩
      · exact ⟨trivial, fun ph_ _ vs w hW _ => Det.ob hW (d_quo rfl rfl (by omega) (quo_u32 (by omega) (by omega) (by omega)))⟩
      · exact ⟨⟨rfl, trivial⟩, fun ph_ _ vs w hW _ => Det.ob hW (d_move rfl)⟩
      · exact ⟨trivial, fun ph_ _ vs w hW _ => Det.ob hW (d_shl rfl rfl (by omega) (shl1_u32 (by omega)))⟩
      · exact ⟨trivial, fun ph_ _ vs w hW _ => Det.ob hW (d_sub rfl rfl (wrap_u32 (by omega) (by omega)))⟩
      · exact ⟨trivial, fun ph_ _ vs w hW _ => Det.ob hW (d_val (y := (comp d F i)) (d_and rfl rfl (mask_u32 (by omega) (by omega) (by omega))) rfl)⟩
      · exact ⟨trivial, fun ph_ _ vs w hW _ => Det.ob hW (d_conv Try.underlying53 Try.underlying24 rfl (wrap_u16 (by omega) (by omega)))⟩
      · exact ⟨⟨rfl, trivial⟩, fun ph_ _ vs w hW _ => Det.ob hW (d_ixA0 (j := i) Try.underlying26 sz24 rfl rfl rfl (by omega))⟩
      · refine ⟨trivial, fun ph_ hp_ vs w hW _ => ?_⟩
        obtain rfl := memN_one hp_
        have hM : Mem w0 w [(b1, cl .u16 256 (to i (comp d F) F), 26), (b2, cl .u16 256 fun _ => 0, 26)] := hW
        exact Ok1.obs (fun w' hu => by rw [cl_set] at hu; exact hM.upd 0 rfl hu) (ok_store1 (v := (Value.int .u16 (comp d F i))) sz24 rfl rfl rfl (hM.at 0 rfl) (by rw [cl_size]; omega))
    · intro a w vs hW _ hF
      have hM : Mem w0 w [(b1, cl .u16 256 (upd (to i (comp d F) F) i (comp d F i)), 26), (b2, cl .u16 256 fun _ => 0, 26)] := hW
      have hF := hF.sub (L' := [(1, (Value.int .i64 (d : Int))), (2, (Value.pointer (some ⟨b1, 0, none⟩))), (4, (Value.pointer (some ⟨b2, 0, none⟩))), (6, (Value.int .i64 (i : Int))), (7, (Value.int .u16 (F i))), (15, (Value.agg (cl .u16 256 F))), (16, (Value.int .i64 (i : Int))), (17, (Value.bool (decide ((i : Int) < 256))))]) ⟨rfl, rfl, rfl, rfl, rfl, rfl, rfl, rfl, trivial⟩
      refine block_n ?_
      refine then_n ?_
      refine wp_region_lit ?_
      refine wl (d_add rfl rfl (wrap_i64 (by omega) (by omega))) rfl hF (fun a hF => ?_)
      refine wl (d_move rfl) rfl hF (fun a hF => ?_)
      refine wl_nil ?_
      have hF := hF.sub (L' := [(1, (Value.int .i64 (d : Int))), (2, (Value.pointer (some ⟨b1, 0, none⟩))), (4, (Value.pointer (some ⟨b2, 0, none⟩))), (6, (Value.int .i64 (i : Int))), (7, (Value.int .u16 (F i))), (15, (Value.agg (cl .u16 256 F))), (16, (Value.int .i64 ((i : Int) + 1))), (17, (Value.bool (decide ((i : Int) < 256))))]) ⟨rfl, rfl, rfl, rfl, rfl, rfl, rfl, rfl, trivial⟩
      refine then_n ?_
      refine ⟨_, ?_, i + 1, rfl, (by omega), hF.sub ⟨rfl, rfl, rfl, rfl, rfl, trivial⟩, ?_⟩
      · omega
      rw [to_step (H := comp d F) (by rfl)] at hM
      exact hM
  · have h1 := of_decide_eq_false h
    clear h
    have hi : i = 256 := by omega
    rw [hi, to_all] at hM
    refine wp_exit ?_
    refine then_exit ?_
    refine then_exit ?_
    refine block_exit ?_
    refine then_n ?_
    refine wp_seq ?_
    refine wp_region_lit ?_
    refine wl (d_loadA Try.underlying26 rfl sz26 rfl (hM.at 0 rfl) (cl_size _ _ _)) rfl hF (fun a hF => ?_)
    refine wl0R (ok_storeA (c' := cl .u16 256 (comp d F)) sz26 rfl rfl (cl_size _ _ _) (cl_one _ _ _) (hM.at 1 rfl) (cl_size _ _ _)) hF ?_
    rintro w a hu hF
    have hM : Mem w0 w [(b1, cl .u16 256 (comp d F), 26), (b2, cl .u16 256 (comp d F), 26)] := hM.upd 1 rfl hu
    refine wl (d_assign rfl) rfl hF (fun a hF => ?_)
    refine wl_nil ?_
    have hF := hF.sub (L' := [(1, (Value.int .i64 (d : Int))), (2, (Value.pointer (some ⟨b1, 0, none⟩))), (4, (Value.pointer (some ⟨b2, 0, none⟩))), (5, (Value.int .i64 0)), (15, (Value.agg (cl .u16 256 F))), (16, (Value.int .i64 (i : Int))), (17, (Value.bool (decide ((i : Int) < 256))))]) ⟨rfl, rfl, rfl, rfl, rfl, rfl, rfl, trivial⟩
    refine then_n ?_
    refine wp_ret ?_
    refine body_ret hF (results2 Try.results29 (RV.cellA Try.underlying26 rfl sz26 hF rfl (hM.at 1 rfl) (cl_size _ _ _)) (RV.tmp hF rfl)) ?_
    exact ⟨rfl, hM.below⟩

set_option maxRecDepth 100000 in
theorem Expand_calls {F : Nat → Int} {d : Nat} (hf : U16 F) (hd : 1 ≤ d ∧ d ≤ 11) (w0 : World) : Calls Try.prog 30 (List.toArray [.agg (cl .u16 256 F), .int .i64 (d : Int)]) w0 (Ret fun v w' => (v = .tuple #[.agg (cl .u16 256 (expa d F)), .int .i64 0]) ∧ Gr w0 w') := by
  refine calls_of Try.func30 rfl Try.ntmps30 rfl fun a hF => ?_
  have hM := Mem.start w0
  have hF := hF.sub (L' := [(0, (Value.agg (cl .u16 256 F))), (1, (Value.int .i64 (d : Int)))]) ⟨rfl, rfl, trivial⟩
  refine wp_seq ?_
  refine wp_region_lit ?_
  refine wlR (ok_box rfl) rfl hF ?_
  rintro _ w a ⟨b1, rfl, hnb_⟩ hF
  have hM : Mem w0 w [(b1, cl .u16 256 F, 26)] := hM.alloc hnb_
  refine wlR (ok_alloc z26) rfl hF ?_
  rintro _ w a ⟨b2, rfl, hnb_⟩ hF
  have hM : Mem w0 w [(b1, cl .u16 256 F, 26), (b2, cl .u16 256 fun _ => 0, 26)] := hM.alloc hnb_
  refine wl (d_assign rfl) rfl hF (fun a hF => ?_)
  refine wl_nil ?_
  have hF := hF.sub (L' := [(0, (Value.agg (cl .u16 256 F))), (1, (Value.int .i64 (d : Int))), (2, (Value.pointer (some ⟨b1, 0, none⟩))), (4, (Value.pointer (some ⟨b2, 0, none⟩))), (5, (Value.int .i64 0))]) ⟨rfl, rfl, rfl, rfl, rfl, trivial⟩
  refine then_n ?_
  refine wp_seq ?_
  refine wp_seq ?_
  refine wp_region_lit ?_
  refine wl (d_move rfl) rfl hF (fun a hF => ?_)
  refine wl (d_bool (c := false) (d_lss rfl rfl) (decide_eq_false (by omega))) rfl hF (fun a hF => ?_)
  refine wl (d_move rfl) rfl hF (fun a hF => ?_)
  refine wlg rfl (d_move rfl) rfl hF (fun a hF => ?_)
  refine wlg rfl (d_bool (c := false) (d_geq rfl rfl) (decide_eq_false (by omega))) rfl hF (fun a hF => ?_)
  refine wl (d_pick (b := false) rfl rfl) rfl hF (fun a hF => ?_)
  refine wl_nil ?_
  have hF := hF.sub (L' := [(0, (Value.agg (cl .u16 256 F))), (1, (Value.int .i64 (d : Int))), (2, (Value.pointer (some ⟨b1, 0, none⟩))), (4, (Value.pointer (some ⟨b2, 0, none⟩))), (5, (Value.int .i64 0)), (13, (Value.bool false))]) ⟨rfl, rfl, rfl, rfl, rfl, rfl, trivial⟩
  refine then_n ?_
  refine wp_cond_false (hF.eval rfl) ?_
  refine wp_skip ?_
  refine then_n ?_
  refine wp_seq ?_
  refine wp_seq ?_
  refine wp_region_lit ?_
  refine wl (d_loadA Try.underlying26 rfl sz26 rfl (hM.at 0 rfl) (cl_size _ _ _)) rfl hF (fun a hF => ?_)
  refine wl (d_move rfl) rfl hF (fun a hF => ?_)
  refine wl_nil ?_
  have hF := hF.sub (L' := [(0, (Value.agg (cl .u16 256 F))), (1, (Value.int .i64 (d : Int))), (2, (Value.pointer (some ⟨b1, 0, none⟩))), (4, (Value.pointer (some ⟨b2, 0, none⟩))), (5, (Value.int .i64 0)), (13, (Value.bool false)), (15, (Value.agg (cl .u16 256 F))), (16, (Value.int .i64 0))]) ⟨rfl, rfl, rfl, rfl, rfl, rfl, rfl, rfl, trivial⟩
  refine then_n ?_
  refine wp_block ?_
  refine wp_loop_k (fun fu_ a w => ∃ i : Nat, fu_ = 256 - i ∧ (i ≤ 256) ∧ Frm a 38 [(1, (Value.int .i64 (d : Int))), (2, (Value.pointer (some ⟨b1, 0, none⟩))), (4, (Value.pointer (some ⟨b2, 0, none⟩))), (15, (Value.agg (cl .u16 256 F))), (16, (Value.int .i64 (i : Int)))] ∧ Mem w0 w [(b1, cl .u16 256 (to i (expa d F) F), 26), (b2, cl .u16 256 fun _ => 0, 26)]) _ ⟨0, rfl, (by omega), hF.sub ⟨rfl, rfl, rfl, rfl, rfl, trivial⟩, ?_⟩ ?_
  · rw [to_zero]; exact hM
  rintro _ a w ⟨i, rfl, hl1_0, hF, hM⟩
  refine wp_seq ?_
  refine wp_region_lit ?_
  refine wl (d_lss rfl rfl) rfl hF (fun a hF => ?_)
  refine wl_nil ?_
  have hF := hF.sub (L' := [(1, (Value.int .i64 (d : Int))), (2, (Value.pointer (some ⟨b1, 0, none⟩))), (4, (Value.pointer (some ⟨b2, 0, none⟩))), (15, (Value.agg (cl .u16 256 F))), (16, (Value.int .i64 (i : Int))), (17, (Value.bool (decide ((i : Int) < 256))))]) ⟨rfl, rfl, rfl, rfl, rfl, rfl, trivial⟩
  refine then_n ?_
  refine wp_seq ?_
  refine wp_if hF rfl (fun h => ?_) (fun h => ?_)
  · have h1 := of_decide_eq_true h
    clear h
    have hfi := hf i (by omega)
    have hp := pow_pos' d
    have hp2 := pow_le' hd.2
    simp at hp2
    have hx0 := Int.emod_nonneg (F i) (show (2 : Int) ^ d ≠ 0 by omega)
    have hx1 := Int.emod_lt_of_pos (F i) hp
    have hp3 := pow_pos' (d - 1)
    have hp4 := pow_le' (show d - 1 ≤ 10 by omega)
    simp at hp4
    have he := expa_b hd.1 hd.2 F i
    refine wp_skip ?_
    refine then_n ?_
    refine wp_seq ?_
    refine wp_block ?_
    refine wp_seq ?_
    refine wp_region_lit ?_
    refine wl (d_move rfl) rfl hF (fun a hF => ?_)
    refine wl (d_indexN (j := i) Try.underlying26 Try.underlying24 rfl sz24 rfl rfl rfl (by omega) (cl_get (by omega))) rfl hF (fun a hF => ?_)
    refine wl (d_assign rfl) rfl hF (fun a hF => ?_)
    refine wl (d_assign rfl) rfl hF (fun a hF => ?_)
    refine wl_nil ?_
    have hF := hF.sub (L' := [(1, (Value.int .i64 (d : Int))), (2, (Value.pointer (some ⟨b1, 0, none⟩))), (4, (Value.pointer (some ⟨b2, 0, none⟩))), (6, (Value.int .i64 (i : Int))), (7, (Value.int .u16 (F i))), (15, (Value.agg (cl .u16 256 F))), (16, (Value.int .i64 (i : Int))), (17, (Value.bool (decide ((i : Int) < 256))))]) ⟨rfl, rfl, rfl, rfl, rfl, rfl, rfl, rfl, trivial⟩
    refine then_n ?_
    refine region_plan Tt mo (fun ph_ w => Mem w0 w (([[(b1, cl .u16 256 (to i (expa d F) F), 26), (b2, cl .u16 256 fun _ => 0, 26)], [(b1, cl .u16 256 (upd (to i (expa d F) F) i (expa d F i)), 26), (b2, cl .u16 256 fun _ => 0, 26)]] : List (List Blk)).getD ph_ [])) [16] (rows := [⟨[], [(6, (Value.int .i64 (i : Int)))], [0], .val (Value.int .i64 (i : Int))⟩, ⟨[], [(7, (Value.int .u16 (F i)))], [0], .val (Value.int .u16 (F i))⟩, ⟨[(1, 21)], [], [0], .val (Value.int .u32 (F i))⟩, ⟨[], [(1, (Value.int .i64 (d : Int)))], [0], .val (Value.int .i64 (d : Int))⟩, ⟨[(3, 23)], [], [0], .val (Value.int .u32 (2 ^ d))⟩, ⟨[(4, 24)], [], [0], .val (Value.int .u32 (2 ^ d - 1))⟩, ⟨[(2, 22), (5, 25)], [], [0], .val (Value.int .u32 (F i % 2 ^ d))⟩, ⟨[(6, 26)], [], [0], .val (Value.int .u32 ((F i % 2 ^ d) * 3329))⟩, ⟨[], [(1, (Value.int .i64 (d : Int)))], [0], .val (Value.int .i64 (d : Int))⟩, ⟨[(8, 28)], [], [0], .val (Value.int .i64 ((d - 1 : Nat) : Int))⟩, ⟨[(9, 29)], [], [0], .val (Value.int .u32 (2 ^ (d - 1)))⟩, ⟨[(7, 27), (10, 30)], [], [0], .val (Value.int .u32 (((F i % 2 ^ d) * 3329) + 2 ^ (d - 1)))⟩, ⟨[], [(1, (Value.int .i64 (d : Int)))], [0], .val (Value.int .i64 (d : Int))⟩, ⟨[(11, 31), (12, 32)], [], [0], .val (Value.int .u32 (expa d F i))⟩, ⟨[(13, 33)], [], [0], .val (Value.int .u16 (expa d F i))⟩, ⟨[(0, 20)], [(2, (Value.pointer (some ⟨b1, 0, none⟩)))], [0], .val (Value.pointer (some ⟨b1, i, none⟩))⟩, ⟨[(15, 35), (14, 34)], [], [0], .rel (fun _ _ => True) (fun _ _ _ _ _ => trivial)⟩]) (by kernel_rfl) hF hM.drew ?_ ?_
    · refine ⟨?_, ?_, ?_, ?_, ?_, ?_, ?_, ?_, ?_, ?_, ?_, ?_, ?_, ?_, ?_, ?_, ?_, trivial⟩
      · exact ⟨⟨rfl, trivial⟩, fun ph_ _ vs w hW _ => Det.ob hW (d_move rfl)⟩
      · exact ⟨⟨rfl, trivial⟩, fun ph_ _ vs w hW _ => Det.ob hW (d_move rfl)⟩
      · exact ⟨trivial, fun ph_ _ vs w hW _ => Det.ob hW (d_conv Try.underlying24 Try.underlying53 rfl (wrap_u32 (by omega) (by omega)))⟩
      · exact ⟨⟨rfl, trivial⟩, fun ph_ _ vs w hW _ => Det.ob hW (d_move rfl)⟩
      · exact ⟨trivial, fun ph_ _ vs w hW _ => Det.ob hW (d_shl rfl rfl (by omega) (shl1_u32 (by omega)))⟩
      · exact ⟨trivial, fun ph_ _ vs w hW _ => Det.ob hW (d_sub rfl rfl (wrap_u32 (by omega) (by omega)))⟩
      · exact ⟨trivial, fun ph_ _ vs w hW _ => Det.ob hW (d_and rfl rfl (mask_u32 (by omega) (by omega) (by omega)))⟩
      · exact ⟨trivial, fun ph_ _ vs w hW _ => Det.ob hW (d_mul rfl rfl (wrap_u32 (by omega) (by omega)))⟩
      · exact ⟨⟨rfl, trivial⟩, fun ph_ _ vs w hW _ => Det.ob hW (d_move rfl)⟩
      · exact ⟨trivial, fun ph_ _ vs w hW _ => Det.ob hW (d_val (y := ((d - 1 : Nat) : Int)) (d_sub rfl rfl (wrap_i64 (by omega) (by omega))) (by omega))⟩
      · exact ⟨trivial, fun ph_ _ vs w hW _ => Det.ob hW (d_shl rfl rfl (by omega) (shl1_u32 (by omega)))⟩
      · exact ⟨trivial, fun ph_ _ vs w hW _ => Det.ob hW (d_add rfl rfl (wrap_u32 (by omega) (by omega)))⟩
      · exact ⟨⟨rfl, trivial⟩, fun ph_ _ vs w hW _ => Det.ob hW (d_move rfl)⟩
      · exact ⟨trivial, fun ph_ _ vs w hW _ => Det.ob hW (d_val (y := (expa d F i)) (d_shr rfl rfl (by omega) (shr_u32 (by omega))) rfl)⟩
      · exact ⟨trivial, fun ph_ _ vs w hW _ => Det.ob hW (d_conv Try.underlying53 Try.underlying24 rfl (wrap_u16 (by omega) (by omega)))⟩
      · exact ⟨⟨rfl, trivial⟩, fun ph_ _ vs w hW _ => Det.ob hW (d_ixA0 (j := i) Try.underlying26 sz24 rfl rfl rfl (by omega))⟩
      · refine ⟨trivial, fun ph_ hp_ vs w hW _ => ?_⟩
        obtain rfl := memN_one hp_
        have hM : Mem w0 w [(b1, cl .u16 256 (to i (expa d F) F), 26), (b2, cl .u16 256 fun _ => 0, 26)] := hW
        exact Ok1.obs (fun w' hu => by rw [cl_set] at hu; exact hM.upd 0 rfl hu) (ok_store1 (v := (Value.int .u16 (expa d F i))) sz24 rfl rfl rfl (hM.at 0 rfl) (by rw [cl_size]; omega))
    · intro a w vs hW _ hF
      have hM : Mem w0 w [(b1, cl .u16 256 (upd (to i (expa d F) F) i (expa d F i)), 26), (b2, cl .u16 256 fun _ => 0, 26)] := hW
      have hF := hF.sub (L' := [(1, (Value.int .i64 (d : Int))), (2, (Value.pointer (some ⟨b1, 0, none⟩))), (4, (Value.pointer (some ⟨b2, 0, none⟩))), (6, (Value.int .i64 (i : Int))), (7, (Value.int .u16 (F i))), (15, (Value.agg (cl .u16 256 F))), (16, (Value.int .i64 (i : Int))), (17, (Value.bool (decide ((i : Int) < 256))))]) ⟨rfl, rfl, rfl, rfl, rfl, rfl, rfl, rfl, trivial⟩
      refine block_n ?_
      refine then_n ?_
      refine wp_region_lit ?_
      refine wl (d_add rfl rfl (wrap_i64 (by omega) (by omega))) rfl hF (fun a hF => ?_)
      refine wl (d_move rfl) rfl hF (fun a hF => ?_)
      refine wl_nil ?_
      have hF := hF.sub (L' := [(1, (Value.int .i64 (d : Int))), (2, (Value.pointer (some ⟨b1, 0, none⟩))), (4, (Value.pointer (some ⟨b2, 0, none⟩))), (6, (Value.int .i64 (i : Int))), (7, (Value.int .u16 (F i))), (15, (Value.agg (cl .u16 256 F))), (16, (Value.int .i64 ((i : Int) + 1))), (17, (Value.bool (decide ((i : Int) < 256))))]) ⟨rfl, rfl, rfl, rfl, rfl, rfl, rfl, rfl, trivial⟩
      refine then_n ?_
      refine ⟨_, ?_, i + 1, rfl, (by omega), hF.sub ⟨rfl, rfl, rfl, rfl, rfl, trivial⟩, ?_⟩
      · omega
      rw [to_step (H := expa d F) (by rfl)] at hM
      exact hM
  · have h1 := of_decide_eq_false h
    clear h
    have hi : i = 256 := by omega
    rw [hi, to_all] at hM
    refine wp_exit ?_
    refine then_exit ?_
    refine then_exit ?_
    refine block_exit ?_
    refine then_n ?_
    refine wp_seq ?_
    refine wp_region_lit ?_
    refine wl (d_loadA Try.underlying26 rfl sz26 rfl (hM.at 0 rfl) (cl_size _ _ _)) rfl hF (fun a hF => ?_)
    refine wl0R (ok_storeA (c' := cl .u16 256 (expa d F)) sz26 rfl rfl (cl_size _ _ _) (cl_one _ _ _) (hM.at 1 rfl) (cl_size _ _ _)) hF ?_
    rintro w a hu hF
    have hM : Mem w0 w [(b1, cl .u16 256 (expa d F), 26), (b2, cl .u16 256 (expa d F), 26)] := hM.upd 1 rfl hu
    refine wl (d_assign rfl) rfl hF (fun a hF => ?_)
    refine wl_nil ?_
    have hF := hF.sub (L' := [(1, (Value.int .i64 (d : Int))), (2, (Value.pointer (some ⟨b1, 0, none⟩))), (4, (Value.pointer (some ⟨b2, 0, none⟩))), (5, (Value.int .i64 0)), (15, (Value.agg (cl .u16 256 F))), (16, (Value.int .i64 (i : Int))), (17, (Value.bool (decide ((i : Int) < 256))))]) ⟨rfl, rfl, rfl, rfl, rfl, rfl, rfl, trivial⟩
    refine then_n ?_
    refine wp_ret ?_
    refine body_ret hF (results2 Try.results30 (RV.cellA Try.underlying26 rfl sz26 hF rfl (hM.at 1 rfl) (cl_size _ _ _)) (RV.tmp hF rfl)) ?_
    exact ⟨rfl, hM.below⟩
end Go.Mi.Ring
