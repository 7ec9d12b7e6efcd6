/- Walks: what functions of ring, and of the reference, return. -/
import Derived.Test.YthnkcocemlcpgaaR0
import Derived.Test.YthnkcocemlcpgaaRf
import Derived.Test.YthnkcocemlcpgaaR1
import Derived.Test.YthnkcocemlcpgaaR0a
import Derived.Test.YthnkcocemlcpgaaR0c
import Derived.Test.YthnkcocemlcpgaaR5
import Derived.Test.YthnkcocemlcpgaaR0e
import Derived.Test.YthnkcocemlcpgaaR2
import Derived.Test.YthnkcocemlcpgaaR3
import Derived.Test.YthnkcocemlcpgaaRb
namespace Go.Mi.Ring
open Go.Mi Go.Proofs
set_option maxRecDepth 100000 in
theorem RingBitsNot_calls {ada : Option Addr} {n ca : Nat} (hn : n ≠ 32) {w0 : World} : Calls Try.prog 7 (List.toArray [.slice ada n ca]) w0 (Ret fun v w' => v = .bool true ∧ Gr w0 w') := by
  refine calls_of Try.func7 rfl Try.ntmps7 rfl fun a hF => ?_
  have hM := Mem.start w0
  have hF := hF.sub (L' := [(0, (Value.slice ada n ca))]) ⟨rfl, trivial⟩
  refine wp_seq ?_
  refine wp_region_lit ?_
  refine wl (d_assign rfl) rfl hF (fun a hF => ?_)
  refine wl_nil ?_
  have hF := hF.sub (L' := [(0, (Value.slice ada n ca)), (2, (Value.bool false))]) ⟨rfl, rfl, trivial⟩
  refine then_n ?_
  refine wp_seq ?_
  refine wp_seq ?_
  refine wp_region_lit ?_
  refine wl (d_move rfl) rfl hF (fun a hF => ?_)
  refine wl (d_len_slice Try.underlying39 rfl) rfl hF (fun a hF => ?_)
  refine wl (d_bool (c := true) (d_neq rfl rfl) (by rw [decide_eq_false (by omega)]; rfl)) rfl hF (fun a hF => ?_)
  refine wl_nil ?_
  have hF := hF.sub (L' := [(0, (Value.slice ada n ca)), (2, (Value.bool false)), (15, (Value.bool true))]) ⟨rfl, rfl, rfl, trivial⟩
  refine then_n ?_
  refine wp_cond_true (hF.eval rfl) ?_
  refine wp_seq ?_
  refine wp_region_lit ?_
  refine wlR (ok_call c9 rfl (awake_calls _)) rfl hF ?_
  rintro _ w a ⟨rfl, hg⟩ hF
  have hM := hM.call hg
  refine wl (d_assign rfl) rfl hF (fun a hF => ?_)
  refine wl_nil ?_
  have hF := hF.sub (L' := [(0, (Value.slice ada n ca)), (2, (Value.bool true)), (15, (Value.bool true))]) ⟨rfl, rfl, rfl, trivial⟩
  refine then_n ?_
  refine wp_ret ?_
  refine then_ret ?_
  refine body_ret hF (results1 Try.results7 (RV.tmp hF rfl)) ?_
  exact ⟨rfl, hM.below⟩

set_option maxRecDepth 100000 in
theorem RingBits32_calls {bb ob ca : Nat} {X : Nat → Int} {w0 : World} (hX : ∀ j, j < 32 → w0.cell? ⟨bb, ob + j, none⟩ = some (.int .u8 (X j))) (hx : ∀ j, j < 32 → 0 ≤ X j ∧ X j < 256) : Calls Try.prog 7 (List.toArray [.slice (some ⟨bb, ob, none⟩) 32 ca]) w0 (Ret fun v w' => v = .bool true ∧ Gr w0 w') := by
  have hu1 : U16 (unp 1 X) := fun i _ => by have := ubit_b X i; rw [unp1]; omega
  have hu2 : U16 (expa 1 (unp 1 X)) := fun i _ => by have := expa_b (d := 1) (by omega) (by omega) (unp 1 X) i; omega
  have hu3 : U16 (comp 1 (expa 1 (unp 1 X))) := fun i _ => by have := comp_b 1 (expa 1 (unp 1 X)) i; omega
  refine calls_of Try.func7 rfl Try.ntmps7 rfl fun a hF => ?_
  have hM := Mem.start w0
  have hF := hF.sub (L' := [(0, (Value.slice (some ⟨bb, ob, none⟩) 32 ca))]) ⟨rfl, trivial⟩
  refine wp_seq ?_
  refine wp_region_lit ?_
  refine wl (d_assign rfl) rfl hF (fun a hF => ?_)
  refine wl_nil ?_
  have hF := hF.sub (L' := [(0, (Value.slice (some ⟨bb, ob, none⟩) 32 ca)), (2, (Value.bool false))]) ⟨rfl, rfl, trivial⟩
  refine then_n ?_
  refine wp_seq ?_
  refine wp_seq ?_
  refine wp_region_lit ?_
  refine wl (d_move rfl) rfl hF (fun a hF => ?_)
  refine wl (d_len_slice Try.underlying39 rfl) rfl hF (fun a hF => ?_)
  refine wl (d_bool (c := false) (d_neq rfl rfl) (by decide)) rfl hF (fun a hF => ?_)
  refine wl_nil ?_
  have hF := hF.sub (L' := [(0, (Value.slice (some ⟨bb, ob, none⟩) 32 ca)), (2, (Value.bool false)), (15, (Value.bool false))]) ⟨rfl, rfl, rfl, trivial⟩
  refine then_n ?_
  refine wp_cond_false (hF.eval rfl) ?_
  refine wp_skip ?_
  refine then_n ?_
  refine wp_seq ?_
  refine wp_region_lit ?_
  refine wl (d_move rfl) rfl hF (fun a hF => ?_)
  refine wlR (ok_call c28 rfl (Decode_calls (d := 1) (n := 32) (B := X) (by omega) (fun h => absurd h (by decide)) (by omega) (fun j hj => hM.old (hX j hj)) hx)) rfl hF ?_
  rintro _ w a ⟨rfl, hg⟩ hF
  have hM := hM.call hg
  refine wl (d_move rfl) rfl hF (fun a hF => ?_)
  refine wl (d_extract (v := (Value.agg (cl .u16 256 (unp 1 X)))) rfl rfl) rfl hF (fun a hF => ?_)
  refine wl (d_extract (v := (Value.int .i64 0)) rfl rfl) rfl hF (fun a hF => ?_)
  refine wlR (ok_alloc z26) rfl hF ?_
  rintro _ w a ⟨b1, rfl, hnb_⟩ hF
  have hM : Mem w0 w [(b1, cl .u16 256 fun _ => 0, 26)] := hM.alloc hnb_
  refine wl0R (ok_storeA (c' := cl .u16 256 (unp 1 X)) sz26 rfl rfl (cl_size _ _ _) (cl_one _ _ _) (hM.at 0 rfl) (cl_size _ _ _)) hF ?_
  rintro w a hu hF
  have hM : Mem w0 w [(b1, cl .u16 256 (unp 1 X), 26)] := hM.upd 0 rfl hu
  refine wl (d_assign rfl) rfl hF (fun a hF => ?_)
  refine wl_nil ?_
  have hF := hF.sub (L' := [(0, (Value.slice (some ⟨bb, ob, none⟩) 32 ca)), (2, (Value.bool false)), (3, (Value.pointer (some ⟨b1, 0, none⟩))), (4, (Value.int .i64 0)), (15, (Value.bool false))]) ⟨rfl, rfl, rfl, rfl, rfl, trivial⟩
  refine then_n ?_
  refine wp_seq ?_
  refine wp_region_lit ?_
  refine wl (d_loadA Try.underlying26 rfl sz26 rfl (hM.at 0 rfl) (cl_size _ _ _)) rfl hF (fun a hF => ?_)
  refine wlR (ok_call c30 rfl (Expand_calls (d := 1) hu1 (by omega) _)) rfl hF ?_
  rintro _ w a ⟨rfl, hg⟩ hF
  have hM := hM.call hg
  refine wl (d_move rfl) rfl hF (fun a hF => ?_)
  refine wl (d_extract (v := (Value.agg (cl .u16 256 (expa 1 (unp 1 X))))) rfl rfl) rfl hF (fun a hF => ?_)
  refine wl (d_extract (v := (Value.int .i64 0)) rfl rfl) rfl hF (fun a hF => ?_)
  refine wlR (ok_alloc z26) rfl hF ?_
  rintro _ w a ⟨b2, rfl, hnb_⟩ hF
  have hM : Mem w0 w [(b1, cl .u16 256 (unp 1 X), 26), (b2, cl .u16 256 fun _ => 0, 26)] := hM.alloc hnb_
  refine wl0R (ok_storeA (c' := cl .u16 256 (expa 1 (unp 1 X))) sz26 rfl rfl (cl_size _ _ _) (cl_one _ _ _) (hM.at 1 rfl) (cl_size _ _ _)) hF ?_
  rintro w a hu hF
  have hM : Mem w0 w [(b1, cl .u16 256 (unp 1 X), 26), (b2, cl .u16 256 (expa 1 (unp 1 X)), 26)] := hM.upd 1 rfl hu
  refine wl (d_assign rfl) rfl hF (fun a hF => ?_)
  refine wl_nil ?_
  have hF := hF.sub (L' := [(0, (Value.slice (some ⟨bb, ob, none⟩) 32 ca)), (2, (Value.bool false)), (3, (Value.pointer (some ⟨b1, 0, none⟩))), (4, (Value.int .i64 0)), (5, (Value.pointer (some ⟨b2, 0, none⟩))), (6, (Value.int .i64 0)), (15, (Value.bool false))]) ⟨rfl, rfl, rfl, rfl, rfl, rfl, rfl, trivial⟩
  refine then_n ?_
  refine wp_seq ?_
  refine wp_region_lit ?_
  refine wl (d_loadA Try.underlying26 rfl sz26 rfl (hM.at 1 rfl) (cl_size _ _ _)) rfl hF (fun a hF => ?_)
  refine wlR (ok_call c29 rfl (Compress_calls (d := 1) hu2 (by omega) _)) rfl hF ?_
  rintro _ w a ⟨rfl, hg⟩ hF
  have hM := hM.call hg
  refine wl (d_move rfl) rfl hF (fun a hF => ?_)
  refine wl (d_extract (v := (Value.agg (cl .u16 256 (comp 1 (expa 1 (unp 1 X)))))) rfl rfl) rfl hF (fun a hF => ?_)
  refine wl (d_extract (v := (Value.int .i64 0)) rfl rfl) rfl hF (fun a hF => ?_)
  refine wlR (ok_alloc z26) rfl hF ?_
  rintro _ w a ⟨b3, rfl, hnb_⟩ hF
  have hM : Mem w0 w [(b1, cl .u16 256 (unp 1 X), 26), (b2, cl .u16 256 (expa 1 (unp 1 X)), 26), (b3, cl .u16 256 fun _ => 0, 26)] := hM.alloc hnb_
  refine wl0R (ok_storeA (c' := cl .u16 256 (comp 1 (expa 1 (unp 1 X)))) sz26 rfl rfl (cl_size _ _ _) (cl_one _ _ _) (hM.at 2 rfl) (cl_size _ _ _)) hF ?_
  rintro w a hu hF
  have hM : Mem w0 w [(b1, cl .u16 256 (unp 1 X), 26), (b2, cl .u16 256 (expa 1 (unp 1 X)), 26), (b3, cl .u16 256 (comp 1 (expa 1 (unp 1 X))), 26)] := hM.upd 2 rfl hu
  refine wl (d_assign rfl) rfl hF (fun a hF => ?_)
  refine wl_nil ?_
  have hF := hF.sub (L' := [(0, (Value.slice (some ⟨bb, ob, none⟩) 32 ca)), (2, (Value.bool false)), (3, (Value.pointer (some ⟨b1, 0, none⟩))), (4, (Value.int .i64 0)), (5, (Value.pointer (some ⟨b2, 0, none⟩))), (6, (Value.int .i64 0)), (7, (Value.pointer (some ⟨b3, 0, none⟩))), (8, (Value.int .i64 0)), (15, (Value.bool false))]) ⟨rfl, rfl, rfl, rfl, rfl, rfl, rfl, rfl, rfl, trivial⟩
  refine then_n ?_
  refine wp_seq ?_
  refine wp_region_lit ?_
  refine wl (d_loadA Try.underlying26 rfl sz26 rfl (hM.at 2 rfl) (cl_size _ _ _)) rfl hF (fun a hF => ?_)
  refine wlR (ok_call c27 rfl (Encode_calls (d := 1) (n := 32) hu3 (by omega) (by omega) _)) rfl hF ?_
  rintro _ w a ⟨⟨b4, rfl, hnb, hcb⟩, hg⟩ hF
  have hM : Mem w0 w [(b1, cl .u16 256 (unp 1 X), 26), (b2, cl .u16 256 (expa 1 (unp 1 X)), 26), (b3, cl .u16 256 (comp 1 (expa 1 (unp 1 X))), 26), (b4, cl .u8 32 (enc 1 (comp 1 (expa 1 (unp 1 X)))), 5)] := hM.adopt hg hnb hcb
  refine wl (d_move rfl) rfl hF (fun a hF => ?_)
  refine wl (d_extract (v := (Value.slice (some ⟨b4, 0, none⟩) 32 32)) rfl rfl) rfl hF (fun a hF => ?_)
  refine wl (d_extract (v := (Value.int .i64 0)) rfl rfl) rfl hF (fun a hF => ?_)
  refine wl (d_assign rfl) rfl hF (fun a hF => ?_)
  refine wl (d_assign rfl) rfl hF (fun a hF => ?_)
  refine wl_nil ?_
  have hF := hF.sub (L' := [(0, (Value.slice (some ⟨bb, ob, none⟩) 32 ca)), (2, (Value.bool false)), (3, (Value.pointer (some ⟨b1, 0, none⟩))), (4, (Value.int .i64 0)), (5, (Value.pointer (some ⟨b2, 0, none⟩))), (6, (Value.int .i64 0)), (7, (Value.pointer (some ⟨b3, 0, none⟩))), (8, (Value.int .i64 0)), (9, (Value.slice (some ⟨b4, 0, none⟩) 32 32)), (10, (Value.int .i64 0)), (15, (Value.bool false))]) ⟨rfl, rfl, rfl, rfl, rfl, rfl, rfl, rfl, rfl, rfl, rfl, trivial⟩
  refine then_n ?_
  refine wp_seq ?_
  refine wp_seq ?_
  refine wp_region_lit ?_
  refine wl (d_move rfl) rfl hF (fun a hF => ?_)
  refine wl (d_bool (c := false) (d_neq rfl rfl) (by decide)) rfl hF (fun a hF => ?_)
  refine wl (d_move rfl) rfl hF (fun a hF => ?_)
  refine wlg rfl (d_move rfl) rfl hF (fun a hF => ?_)
  refine wlg rfl (d_bool (c := false) (d_neq rfl rfl) (by decide)) rfl hF (fun a hF => ?_)
  refine wl (d_pick (b := false) rfl rfl) rfl hF (fun a hF => ?_)
  refine wl (d_move rfl) rfl hF (fun a hF => ?_)
  refine wlg rfl (d_move rfl) rfl hF (fun a hF => ?_)
  refine wlg rfl (d_bool (c := false) (d_neq rfl rfl) (by decide)) rfl hF (fun a hF => ?_)
  refine wl (d_pick (b := false) rfl rfl) rfl hF (fun a hF => ?_)
  refine wl (d_move rfl) rfl hF (fun a hF => ?_)
  refine wlg rfl (d_move rfl) rfl hF (fun a hF => ?_)
  refine wlg rfl (d_bool (c := false) (d_neq rfl rfl) (by decide)) rfl hF (fun a hF => ?_)
  refine wl (d_pick (b := false) rfl rfl) rfl hF (fun a hF => ?_)
  refine wl (d_move rfl) rfl hF (fun a hF => ?_)
  refine wlg rfl (d_move rfl) rfl hF (fun a hF => ?_)
  refine wlg rfl (d_bytes_string Try.underlying39 Try.underlying5 Try.underlying9 rfl (Sl.of_mem hM 3 rfl) (fun h => by cases h)) rfl hF (fun a hF => ?_)
  refine wlg rfl (d_move rfl) rfl hF (fun a hF => ?_)
  refine wlg rfl (d_bytes_string Try.underlying39 Try.underlying5 Try.underlying9 rfl (X := X) ⟨.inr ⟨bb, ob, rfl, fun j hj => hM.old (hX j hj)⟩⟩ (fun h => by cases h)) rfl hF (fun a hF => ?_)
  refine wlg rfl (d_bool (c := false) (d_neqS rfl rfl) (by rw [bytesOf_congr (bits_back hx)]; simp)) rfl hF (fun a hF => ?_)
  refine wl (d_pick (b := false) rfl rfl) rfl hF (fun a hF => ?_)
  refine wl_nil ?_
  have hF := hF.sub (L' := [(0, (Value.slice (some ⟨bb, ob, none⟩) 32 ca)), (2, (Value.bool false)), (3, (Value.pointer (some ⟨b1, 0, none⟩))), (4, (Value.int .i64 0)), (5, (Value.pointer (some ⟨b2, 0, none⟩))), (6, (Value.int .i64 0)), (7, (Value.pointer (some ⟨b3, 0, none⟩))), (8, (Value.int .i64 0)), (9, (Value.slice (some ⟨b4, 0, none⟩) 32 32)), (10, (Value.int .i64 0)), (15, (Value.bool false)), (57, (Value.bool false))]) ⟨rfl, rfl, rfl, rfl, rfl, rfl, rfl, rfl, rfl, rfl, rfl, rfl, trivial⟩
  refine then_n ?_
  refine wp_cond_false (hF.eval rfl) ?_
  refine wp_skip ?_
  refine then_n ?_
  refine wp_seq ?_
  refine wp_seq ?_
  refine wp_region_lit ?_
  refine wl (d_assign rfl) rfl hF (fun a hF => ?_)
  refine wl_nil ?_
  have hF := hF.sub (L' := [(0, (Value.slice (some ⟨bb, ob, none⟩) 32 ca)), (2, (Value.bool false)), (3, (Value.pointer (some ⟨b1, 0, none⟩))), (4, (Value.int .i64 0)), (5, (Value.pointer (some ⟨b2, 0, none⟩))), (6, (Value.int .i64 0)), (7, (Value.pointer (some ⟨b3, 0, none⟩))), (8, (Value.int .i64 0)), (9, (Value.slice (some ⟨b4, 0, none⟩) 32 32)), (10, (Value.int .i64 0)), (11, (Value.int .i64 0)), (15, (Value.bool false)), (57, (Value.bool false))]) ⟨rfl, rfl, rfl, rfl, rfl, rfl, rfl, rfl, rfl, rfl, rfl, rfl, rfl, trivial⟩
  refine then_n ?_
  refine wp_block ?_
  refine wp_loop_k (fun fu_ a w => ∃ k : Nat, fu_ = 256 - k ∧ (k ≤ 256) ∧ Frm a 86 [(0, (Value.slice (some ⟨bb, ob, none⟩) 32 ca)), (3, (Value.pointer (some ⟨b1, 0, none⟩))), (5, (Value.pointer (some ⟨b2, 0, none⟩))), (11, (Value.int .i64 (k : Int)))] ∧ Mem w0 w [(b1, cl .u16 256 (unp 1 X), 26), (b2, cl .u16 256 (expa 1 (unp 1 X)), 26), (b3, cl .u16 256 (comp 1 (expa 1 (unp 1 X))), 26), (b4, cl .u8 32 (enc 1 (comp 1 (expa 1 (unp 1 X)))), 5)]) _ ⟨0, rfl, (by omega), hF.sub ⟨rfl, rfl, rfl, rfl, trivial⟩, ?_⟩ ?_
  · exact hM
  rintro _ a w ⟨k, rfl, hl1_0, hF, hM⟩
  refine wp_seq ?_
  refine wp_seq ?_
  refine wp_region_lit ?_
  refine wl (d_move rfl) rfl hF (fun a hF => ?_)
  refine wl (d_lss rfl rfl) rfl hF (fun a hF => ?_)
  refine wl_nil ?_
  have hF := hF.sub (L' := [(0, (Value.slice (some ⟨bb, ob, none⟩) 32 ca)), (3, (Value.pointer (some ⟨b1, 0, none⟩))), (5, (Value.pointer (some ⟨b2, 0, none⟩))), (11, (Value.int .i64 (k : Int))), (59, (Value.bool (decide ((k : Int) < 256))))]) ⟨rfl, rfl, rfl, rfl, rfl, trivial⟩
  refine then_n ?_
  refine wp_if hF rfl (fun h => ?_) (fun h => ?_)
  · have hlt := of_decide_eq_true h
    clear h
    have hxk := hx (k / 8) (by omega)
    have hs0 : 0 ≤ X (k / 8) / 2 ^ (k % 8) := Int.ediv_nonneg hxk.1 (Int.le_of_lt (pow_pos' _))
    have hs1 : X (k / 8) / 2 ^ (k % 8) ≤ X (k / 8) := Int.ediv_le_self _ hxk.1
    have hbt := ubit_b X k
    have hk2 : expa 1 (unp 1 X) k = 1665 * ubit X k := by rw [expa1 (by rw [unp1]; exact hbt), unp1]
    refine wp_skip ?_
    refine then_n ?_
    refine wp_seq ?_
    refine wp_block ?_
    refine wp_seq ?_
    refine wp_region_lit ?_
    refine wl (d_move rfl) rfl hF (fun a hF => ?_)
    refine wl (d_move rfl) rfl hF (fun a hF => ?_)
    refine wl (d_val (y := ((k / 8 : Nat) : Int)) (d_quo rfl rfl (by omega) (quo_i64 (by omega) (by omega) (by omega))) (by omega)) rfl hF (fun a hF => ?_)
    refine wl (d_ixS (j := k / 8) Try.underlying39 sz5 rfl rfl rfl (by omega)) rfl hF (fun a hF => ?_)
    refine wl (d_load1 Try.underlying5 rfl rfl (hM.old (hX _ (by omega)))) rfl hF (fun a hF => ?_)
    refine wl (d_move rfl) rfl hF (fun a hF => ?_)
    refine wl (d_val (y := ((k % 8 : Nat) : Int)) (d_rem rfl rfl (by omega) (tmod_pos (by omega))) (by omega)) rfl hF (fun a hF => ?_)
    refine wl (d_shr rfl rfl (by omega) (shr_u8 (by omega))) rfl hF (fun a hF => ?_)
    refine wl (d_val (y := (ubit X k)) (d_and rfl rfl (and1_u8 hs0 (by omega))) rfl) rfl hF (fun a hF => ?_)
    refine wl (d_conv Try.underlying5 Try.underlying24 rfl (wrap_u16 (by omega) (by omega))) rfl hF (fun a hF => ?_)
    refine wl (d_assign rfl) rfl hF (fun a hF => ?_)
    refine wl_nil ?_
    have hF := hF.sub (L' := [(0, (Value.slice (some ⟨bb, ob, none⟩) 32 ca)), (3, (Value.pointer (some ⟨b1, 0, none⟩))), (5, (Value.pointer (some ⟨b2, 0, none⟩))), (11, (Value.int .i64 (k : Int))), (12, (Value.int .u16 (ubit X k))), (59, (Value.bool (decide ((k : Int) < 256))))]) ⟨rfl, rfl, rfl, rfl, rfl, rfl, trivial⟩
    refine then_n ?_
    refine wp_seq ?_
    refine wp_region_lit ?_
    refine wl (d_move rfl) rfl hF (fun a hF => ?_)
    refine wl (d_ixA0 (j := k) Try.underlying26 sz24 rfl rfl rfl (by omega)) rfl hF (fun a hF => ?_)
    refine wl (d_load1 Try.underlying24 rfl rfl (hM.cell 0 rfl (cl_get (by omega)))) rfl hF (fun a hF => ?_)
    refine wl (d_move rfl) rfl hF (fun a hF => ?_)
    refine wl (d_bool (c := false) (d_neq rfl rfl) (by rw [unp1, decide_eq_true rfl]; rfl)) rfl hF (fun a hF => ?_)
    refine wl (d_move rfl) rfl hF (fun a hF => ?_)
    refine wlg rfl (d_move rfl) rfl hF (fun a hF => ?_)
    refine wlg rfl (d_ixA0 (j := k) Try.underlying26 sz24 rfl rfl rfl (by omega)) rfl hF (fun a hF => ?_)
    refine wlg rfl (d_load1 Try.underlying24 rfl rfl (hM.cell 1 rfl (cl_get (by omega)))) rfl hF (fun a hF => ?_)
    refine wlg rfl (d_move rfl) rfl hF (fun a hF => ?_)
    refine wlg rfl (d_mul rfl rfl (wrap_u16 (by omega) (by omega))) rfl hF (fun a hF => ?_)
    refine wlg rfl (d_bool (c := false) (d_neq rfl rfl) (by rw [hk2, decide_eq_true rfl]; rfl)) rfl hF (fun a hF => ?_)
    refine wl (d_pick (b := false) rfl rfl) rfl hF (fun a hF => ?_)
    refine wl_nil ?_
    have hF := hF.sub (L' := [(0, (Value.slice (some ⟨bb, ob, none⟩) 32 ca)), (3, (Value.pointer (some ⟨b1, 0, none⟩))), (5, (Value.pointer (some ⟨b2, 0, none⟩))), (11, (Value.int .i64 (k : Int))), (12, (Value.int .u16 (ubit X k))), (59, (Value.bool (decide ((k : Int) < 256)))), (84, (Value.bool false))]) ⟨rfl, rfl, rfl, rfl, rfl, rfl, rfl, trivial⟩
    refine then_n ?_
    refine wp_cond_false (hF.eval rfl) ?_
    refine wp_skip ?_
    refine block_n ?_
    refine then_n ?_
    refine wp_region_lit ?_
    refine wl (d_move rfl) rfl hF (fun a hF => ?_)
    refine wl (d_add rfl rfl (wrap_i64 (by omega) (by omega))) rfl hF (fun a hF => ?_)
    refine wl (d_assign rfl) rfl hF (fun a hF => ?_)
    refine wl_nil ?_
    have hF := hF.sub (L' := [(0, (Value.slice (some ⟨bb, ob, none⟩) 32 ca)), (3, (Value.pointer (some ⟨b1, 0, none⟩))), (5, (Value.pointer (some ⟨b2, 0, none⟩))), (11, (Value.int .i64 ((k : Int) + 1))), (12, (Value.int .u16 (ubit X k))), (59, (Value.bool (decide ((k : Int) < 256)))), (84, (Value.bool false))]) ⟨rfl, rfl, rfl, rfl, rfl, rfl, rfl, trivial⟩
    refine then_n ?_
    refine ⟨_, ?_, k + 1, rfl, (by omega), hF.sub ⟨rfl, rfl, rfl, rfl, trivial⟩, ?_⟩
    · omega
    exact hM
  · have hlt := of_decide_eq_false h
    clear h
    refine wp_exit ?_
    refine then_exit ?_
    refine then_exit ?_
    refine block_exit ?_
    refine then_n ?_
    refine wp_seq ?_
    refine wp_region_lit ?_
    refine wlR (ok_call c9 rfl (awake_calls _)) rfl hF ?_
    rintro _ w a ⟨rfl, hg⟩ hF
    have hM := hM.call hg
    refine wl (d_assign rfl) rfl hF (fun a hF => ?_)
    refine wl_nil ?_
    have hF := hF.sub (L' := [(0, (Value.slice (some ⟨bb, ob, none⟩) 32 ca)), (2, (Value.bool true)), (3, (Value.pointer (some ⟨b1, 0, none⟩))), (5, (Value.pointer (some ⟨b2, 0, none⟩))), (11, (Value.int .i64 (k : Int))), (59, (Value.bool (decide ((k : Int) < 256))))]) ⟨rfl, rfl, rfl, rfl, rfl, rfl, trivial⟩
    refine then_n ?_
    refine wp_ret ?_
    refine body_ret hF (results1 Try.results7 (RV.tmp hF rfl)) ?_
    exact ⟨rfl, hM.below⟩

set_option maxRecDepth 100000 in
theorem RingCodesNot_calls {ada : Option Addr} {n ca : Nat} {d : Int} {w0 : World} (hnot : 256 < n ∨ d < 1 ∨ 12 < d) : Calls Try.prog 6 (List.toArray [.slice ada n ca, .int .i64 d]) w0 (Ret fun v w' => v = .bool true ∧ Gr w0 w') := by
  refine calls_of Try.func6 rfl Try.ntmps6 rfl fun a hF => ?_
  have hM := Mem.start w0
  have hF := hF.sub (L' := [(0, (Value.slice ada n ca)), (1, (Value.int .i64 d))]) ⟨rfl, rfl, trivial⟩
  refine wp_seq ?_
  refine wp_region_lit ?_
  refine wl (d_assign rfl) rfl hF (fun a hF => ?_)
  refine wl_nil ?_
  have hF := hF.sub (L' := [(0, (Value.slice ada n ca)), (1, (Value.int .i64 d)), (4, (Value.bool false))]) ⟨rfl, rfl, rfl, trivial⟩
  refine then_n ?_
  refine wp_seq ?_
  refine wp_seq ?_
  refine wp_region_lit ?_
  refine wl (d_move rfl) rfl hF (fun a hF => ?_)
  refine wl (d_len_slice Try.underlying22 rfl) rfl hF (fun a hF => ?_)
  refine wl (d_gtr rfl rfl) rfl hF (fun a hF => ?_)
  refine wl (d_move rfl) rfl hF (fun a hF => ?_)
  by_cases hn : (256 < (n : Int))
  · have hdec_ : decide ((256 < (n : Int))) = true := decide_eq_true hn
    rw [hdec_] at hF
    refine wlgs (c := true) rfl rfl rfl hF (fun a hF => ?_)
    refine wlgs (c := true) rfl rfl rfl hF (fun a hF => ?_)
    refine wl (d_pick (b := true) rfl rfl) rfl hF (fun a hF => ?_)
    refine wl (d_move rfl) rfl hF (fun a hF => ?_)
    refine wlgs (c := true) rfl rfl rfl hF (fun a hF => ?_)
    refine wlgs (c := true) rfl rfl rfl hF (fun a hF => ?_)
    refine wl (d_pick (b := true) rfl rfl) rfl hF (fun a hF => ?_)
    refine wl_nil ?_
    have hF := hF.sub (L' := [(0, (Value.slice ada n ca)), (1, (Value.int .i64 d)), (4, (Value.bool false)), (29, (Value.bool true))]) ⟨rfl, rfl, rfl, rfl, trivial⟩
    refine then_n ?_
    refine wp_cond_true (hF.eval rfl) ?_
    refine wp_seq ?_
    refine wp_region_lit ?_
    refine wlR (ok_call c9 rfl (awake_calls _)) rfl hF ?_
    rintro _ w a ⟨rfl, hg⟩ hF
    have hM := hM.call hg
    refine wl (d_assign rfl) rfl hF (fun a hF => ?_)
    refine wl_nil ?_
    have hF := hF.sub (L' := [(0, (Value.slice ada n ca)), (1, (Value.int .i64 d)), (4, (Value.bool true)), (29, (Value.bool true))]) ⟨rfl, rfl, rfl, rfl, trivial⟩
    refine then_n ?_
    refine wp_ret ?_
    refine then_ret ?_
    refine body_ret hF (results1 Try.results6 (RV.tmp hF rfl)) ?_
    exact ⟨rfl, hM.below⟩
  · have hdec_ : decide ((256 < (n : Int))) = false := decide_eq_false hn
    rw [hdec_] at hF
    refine wlg rfl (d_move rfl) rfl hF (fun a hF => ?_)
    refine wlg rfl (d_lss rfl rfl) rfl hF (fun a hF => ?_)
    refine wl (d_pick (b := false) rfl rfl) rfl hF (fun a hF => ?_)
    refine wl (d_move rfl) rfl hF (fun a hF => ?_)
    by_cases hd1 : d < (1 : Int)
    · have hdec_ : decide (d < (1 : Int)) = true := decide_eq_true hd1
      rw [hdec_] at hF
      refine wlgs (c := true) rfl rfl rfl hF (fun a hF => ?_)
      refine wlgs (c := true) rfl rfl rfl hF (fun a hF => ?_)
      refine wl (d_pick (b := true) rfl rfl) rfl hF (fun a hF => ?_)
      refine wl_nil ?_
      have hF := hF.sub (L' := [(0, (Value.slice ada n ca)), (1, (Value.int .i64 d)), (4, (Value.bool false)), (29, (Value.bool true))]) ⟨rfl, rfl, rfl, rfl, trivial⟩
      refine then_n ?_
      refine wp_cond_true (hF.eval rfl) ?_
      refine wp_seq ?_
      refine wp_region_lit ?_
      refine wlR (ok_call c9 rfl (awake_calls _)) rfl hF ?_
      rintro _ w a ⟨rfl, hg⟩ hF
      have hM := hM.call hg
      refine wl (d_assign rfl) rfl hF (fun a hF => ?_)
      refine wl_nil ?_
      have hF := hF.sub (L' := [(0, (Value.slice ada n ca)), (1, (Value.int .i64 d)), (4, (Value.bool true)), (29, (Value.bool true))]) ⟨rfl, rfl, rfl, rfl, trivial⟩
      refine then_n ?_
      refine wp_ret ?_
      refine then_ret ?_
      refine body_ret hF (results1 Try.results6 (RV.tmp hF rfl)) ?_
      exact ⟨rfl, hM.below⟩
    · have hdec_ : decide (d < (1 : Int)) = false := decide_eq_false hd1
      rw [hdec_] at hF
      refine wlg rfl (d_move rfl) rfl hF (fun a hF => ?_)
      refine wlg rfl (d_bool (c := true) (d_gtr rfl rfl) (decide_eq_true (by omega))) rfl hF (fun a hF => ?_)
      refine wl (d_pick (b := false) rfl rfl) rfl hF (fun a hF => ?_)
      refine wl_nil ?_
      have hF := hF.sub (L' := [(0, (Value.slice ada n ca)), (1, (Value.int .i64 d)), (4, (Value.bool false)), (29, (Value.bool true))]) ⟨rfl, rfl, rfl, rfl, trivial⟩
      refine then_n ?_
      refine wp_cond_true (hF.eval rfl) ?_
      refine wp_seq ?_
      refine wp_region_lit ?_
      refine wlR (ok_call c9 rfl (awake_calls _)) rfl hF ?_
      rintro _ w a ⟨rfl, hg⟩ hF
      have hM := hM.call hg
      refine wl (d_assign rfl) rfl hF (fun a hF => ?_)
      refine wl_nil ?_
      have hF := hF.sub (L' := [(0, (Value.slice ada n ca)), (1, (Value.int .i64 d)), (4, (Value.bool true)), (29, (Value.bool true))]) ⟨rfl, rfl, rfl, rfl, trivial⟩
      refine then_n ?_
      refine wp_ret ?_
      refine then_ret ?_
      refine body_ret hF (results1 Try.results6 (RV.tmp hF rfl)) ?_
      exact ⟨rfl, hM.below⟩

set_option maxRecDepth 100000 in
theorem RingCodesOk_calls {ada : Option Addr} {n n2 ca d : Nat} {X : Nat → Int} {w0 : World} (hsa : Sl w0 ada n .u16 X) (hxa : ∀ j, j < n → 0 ≤ X j ∧ X j < 65536) (hn : n ≤ 256) (hd : 1 ≤ d ∧ d ≤ 12) (hn2 : n2 = 32 * d) : Calls Try.prog 6 (List.toArray [.slice ada n ca, .int .i64 (d : Int)]) w0 (Ret fun v w' => v = .bool true ∧ Gr w0 w') := by
  refine calls_of Try.func6 rfl Try.ntmps6 rfl fun a hF => ?_
  have hM := Mem.start w0
  have hF := hF.sub (L' := [(0, (Value.slice ada n ca)), (1, (Value.int .i64 (d : Int)))]) ⟨rfl, rfl, trivial⟩
  refine wp_seq ?_
  refine wp_region_lit ?_
  refine wl (d_assign rfl) rfl hF (fun a hF => ?_)
  refine wl_nil ?_
  have hF := hF.sub (L' := [(0, (Value.slice ada n ca)), (1, (Value.int .i64 (d : Int))), (4, (Value.bool false))]) ⟨rfl, rfl, rfl, trivial⟩
  refine then_n ?_
  refine wp_seq ?_
  refine wp_seq ?_
  refine wp_region_lit ?_
  refine wl (d_move rfl) rfl hF (fun a hF => ?_)
  refine wl (d_len_slice Try.underlying22 rfl) rfl hF (fun a hF => ?_)
  refine wl (d_bool (c := false) (d_gtr rfl rfl) (decide_eq_false (by omega))) rfl hF (fun a hF => ?_)
  refine wl (d_move rfl) rfl hF (fun a hF => ?_)
  refine wlg rfl (d_move rfl) rfl hF (fun a hF => ?_)
  refine wlg rfl (d_bool (c := false) (d_lss rfl rfl) (decide_eq_false (by omega))) rfl hF (fun a hF => ?_)
  refine wl (d_pick (b := false) rfl rfl) rfl hF (fun a hF => ?_)
  refine wl (d_move rfl) rfl hF (fun a hF => ?_)
  refine wlg rfl (d_move rfl) rfl hF (fun a hF => ?_)
  refine wlg rfl (d_bool (c := false) (d_gtr rfl rfl) (decide_eq_false (by omega))) rfl hF (fun a hF => ?_)
  refine wl (d_pick (b := false) rfl rfl) rfl hF (fun a hF => ?_)
  refine wl_nil ?_
  have hF := hF.sub (L' := [(0, (Value.slice ada n ca)), (1, (Value.int .i64 (d : Int))), (4, (Value.bool false)), (29, (Value.bool false))]) ⟨rfl, rfl, rfl, rfl, trivial⟩
  refine then_n ?_
  refine wp_cond_false (hF.eval rfl) ?_
  refine wp_skip ?_
  refine then_n ?_
  refine wp_seq ?_
  refine wp_region_lit ?_
  refine wl (d_move rfl) rfl hF (fun a hF => ?_)
  refine wlR (ok_call c10 rfl (poly_any (by omega) (hsa.mem hM) hxa)) rfl hF ?_
  rintro _ w a ⟨rfl, hg⟩ hF
  have hM := hM.call hg
  refine wl (d_move rfl) rfl hF (fun a hF => ?_)
  refine wl (d_extract (v := (Value.agg (cl .u16 256 (pl n X)))) rfl rfl) rfl hF (fun a hF => ?_)
  refine wl (d_extract (v := (Value.agg (cl .u16 256 (pl n X)))) rfl rfl) rfl hF (fun a hF => ?_)
  refine wlR (ok_alloc z26) rfl hF ?_
  rintro _ w a ⟨b1, rfl, hnb_⟩ hF
  have hM : Mem w0 w [(b1, cl .u16 256 fun _ => 0, 26)] := hM.alloc hnb_
  refine wlR (ok_alloc z27) rfl hF ?_
  rintro _ w a ⟨b2, rfl, hnb_⟩ hF
  have hM : Mem w0 w [(b1, cl .u16 256 fun _ => 0, 26), (b2, cl .u16 256 fun _ => 0, 27)] := hM.alloc hnb_
  refine wl0R (ok_storeA (c' := cl .u16 256 (pl n X)) sz26 rfl rfl (cl_size _ _ _) (cl_one _ _ _) (hM.at 0 rfl) (cl_size _ _ _)) hF ?_
  rintro w a hu hF
  have hM : Mem w0 w [(b1, cl .u16 256 (pl n X), 26), (b2, cl .u16 256 fun _ => 0, 27)] := hM.upd 0 rfl hu
  refine wl0R (ok_storeA (c' := cl .u16 256 (pl n X)) sz27 rfl rfl (cl_size _ _ _) (cl_one _ _ _) (hM.at 1 rfl) (cl_size _ _ _)) hF ?_
  rintro w a hu hF
  have hM : Mem w0 w [(b1, cl .u16 256 (pl n X), 26), (b2, cl .u16 256 (pl n X), 27)] := hM.upd 1 rfl hu
  refine wl_nil ?_
  have hF := hF.sub (L' := [(0, (Value.slice ada n ca)), (1, (Value.int .i64 (d : Int))), (4, (Value.bool false)), (5, (Value.pointer (some ⟨b1, 0, none⟩))), (6, (Value.pointer (some ⟨b2, 0, none⟩))), (29, (Value.bool false))]) ⟨rfl, rfl, rfl, rfl, rfl, rfl, trivial⟩
  refine then_n ?_
  refine wp_seq ?_
  refine wp_seq ?_
  refine wp_region_lit ?_
  refine wl (d_loadA Try.underlying27 rfl sz27 rfl (hM.at 1 rfl) (cl_size _ _ _)) rfl hF (fun a hF => ?_)
  refine wlR (ok_call c11 rfl (RMay_calls (pl_u hxa) _)) rfl hF ?_
  rintro _ w a ⟨rfl, hg⟩ hF
  have hM := hM.call hg
  refine wl (d_not rfl) rfl hF (fun a hF => ?_)
  refine wl_nil ?_
  have hF := hF.sub (L' := [(0, (Value.slice ada n ca)), (1, (Value.int .i64 (d : Int))), (4, (Value.bool false)), (5, (Value.pointer (some ⟨b1, 0, none⟩))), (6, (Value.pointer (some ⟨b2, 0, none⟩))), (29, (Value.bool false)), (38, (Value.bool (!(sMay (pl n X)))))]) ⟨rfl, rfl, rfl, rfl, rfl, rfl, rfl, trivial⟩
  refine then_n ?_
  refine wp_if hF rfl (fun h => ?_) (fun h => ?_)
  · have hmay := h
    clear h
    refine wp_seq ?_
    refine wp_region_lit ?_
    refine wlR (ok_call c9 rfl (awake_calls _)) rfl hF ?_
    rintro _ w a ⟨rfl, hg⟩ hF
    have hM := hM.call hg
    refine wl (d_assign rfl) rfl hF (fun a hF => ?_)
    refine wl_nil ?_
    have hF := hF.sub (L' := [(0, (Value.slice ada n ca)), (1, (Value.int .i64 (d : Int))), (4, (Value.bool true)), (5, (Value.pointer (some ⟨b1, 0, none⟩))), (6, (Value.pointer (some ⟨b2, 0, none⟩))), (29, (Value.bool false)), (38, (Value.bool (!(sMay (pl n X)))))]) ⟨rfl, rfl, rfl, rfl, rfl, rfl, rfl, trivial⟩
    refine then_n ?_
    refine wp_ret ?_
    refine then_ret ?_
    refine body_ret hF (results1 Try.results6 (RV.tmp hF rfl)) ?_
    exact ⟨rfl, hM.below⟩
  · have hmay := h
    clear h
    refine wp_skip ?_
    refine then_n ?_
    refine wp_seq ?_
    have hmay : sMay (pl n X) = true := by simpa using hmay
    have hred : ∀ i, i < 256 → 0 ≤ pl n X i ∧ pl n X i < 3329 := fun i hi => ⟨(pl_u hxa i hi).1, sMay_true hmay i hi⟩
    have h12 : ∀ i, i < 256 → unp 12 (enc 12 (pl n X)) i = pl n X i := fun i hi => unp12 (hred i hi)
    have hmay12 : sMay (unp 12 (enc 12 (pl n X))) = true := sMay_of fun i hi => by rw [h12 i hi]; exact (hred i hi).2
    refine wp_region_lit ?_
    refine wl (d_loadA Try.underlying26 rfl sz26 rfl (hM.at 0 rfl) (cl_size _ _ _)) rfl hF (fun a hF => ?_)
    refine wlR (ok_call c27 rfl (Encode_calls (d := 12) (n := 384) (pl_u hxa) (by omega) (by omega) _)) rfl hF ?_
    rintro _ w a ⟨⟨b3, rfl, hnb, hcb⟩, hg⟩ hF
    have hM : Mem w0 w [(b1, cl .u16 256 (pl n X), 26), (b2, cl .u16 256 (pl n X), 27), (b3, cl .u8 384 (enc 12 (pl n X)), 5)] := hM.adopt hg hnb hcb
    refine wl (d_move rfl) rfl hF (fun a hF => ?_)
    refine wl (d_extract (v := (Value.slice (some ⟨b3, 0, none⟩) 384 384)) rfl rfl) rfl hF (fun a hF => ?_)
    refine wl (d_extract (v := (Value.int .i64 0)) rfl rfl) rfl hF (fun a hF => ?_)
    refine wl (d_assign rfl) rfl hF (fun a hF => ?_)
    refine wl (d_assign rfl) rfl hF (fun a hF => ?_)
    refine wl_nil ?_
    have hF := hF.sub (L' := [(0, (Value.slice ada n ca)), (1, (Value.int .i64 (d : Int))), (4, (Value.bool false)), (5, (Value.pointer (some ⟨b1, 0, none⟩))), (6, (Value.pointer (some ⟨b2, 0, none⟩))), (7, (Value.slice (some ⟨b3, 0, none⟩) 384 384)), (8, (Value.int .i64 0)), (29, (Value.bool false)), (38, (Value.bool (!(sMay (pl n X)))))]) ⟨rfl, rfl, rfl, rfl, rfl, rfl, rfl, rfl, rfl, trivial⟩
    refine then_n ?_
    refine wp_seq ?_
    refine wp_region_lit ?_
    refine wl (d_move rfl) rfl hF (fun a hF => ?_)
    refine wlR (ok_call c28 rfl (Decode_calls (d := 12) (n := 384) (B := (enc 12 (pl n X))) (by omega) (fun _ => hmay12) (by omega) (fun j hj => by rw [Nat.zero_add]; exact hM.cell 2 rfl (cl_get hj)) (fun j _ => enc_b _ _ j))) rfl hF ?_
    rintro _ w a ⟨rfl, hg⟩ hF
    have hM := hM.call hg
    refine wl (d_move rfl) rfl hF (fun a hF => ?_)
    refine wl (d_extract (v := (Value.agg (cl .u16 256 (unp 12 (enc 12 (pl n X)))))) rfl rfl) rfl hF (fun a hF => ?_)
    refine wl (d_extract (v := (Value.int .i64 0)) rfl rfl) rfl hF (fun a hF => ?_)
    refine wlR (ok_alloc z26) rfl hF ?_
    rintro _ w a ⟨b4, rfl, hnb_⟩ hF
    have hM : Mem w0 w [(b1, cl .u16 256 (pl n X), 26), (b2, cl .u16 256 (pl n X), 27), (b3, cl .u8 384 (enc 12 (pl n X)), 5), (b4, cl .u16 256 fun _ => 0, 26)] := hM.alloc hnb_
    refine wl0R (ok_storeA (c' := cl .u16 256 (unp 12 (enc 12 (pl n X)))) sz26 rfl rfl (cl_size _ _ _) (cl_one _ _ _) (hM.at 3 rfl) (cl_size _ _ _)) hF ?_
    rintro w a hu hF
    have hM : Mem w0 w [(b1, cl .u16 256 (pl n X), 26), (b2, cl .u16 256 (pl n X), 27), (b3, cl .u8 384 (enc 12 (pl n X)), 5), (b4, cl .u16 256 (unp 12 (enc 12 (pl n X))), 26)] := hM.upd 3 rfl hu
    refine wl (d_assign rfl) rfl hF (fun a hF => ?_)
    refine wl_nil ?_
    have hF := hF.sub (L' := [(0, (Value.slice ada n ca)), (1, (Value.int .i64 (d : Int))), (4, (Value.bool false)), (5, (Value.pointer (some ⟨b1, 0, none⟩))), (6, (Value.pointer (some ⟨b2, 0, none⟩))), (7, (Value.slice (some ⟨b3, 0, none⟩) 384 384)), (8, (Value.int .i64 0)), (9, (Value.pointer (some ⟨b4, 0, none⟩))), (10, (Value.int .i64 0)), (29, (Value.bool false)), (38, (Value.bool (!(sMay (pl n X)))))]) ⟨rfl, rfl, rfl, rfl, rfl, rfl, rfl, rfl, rfl, rfl, rfl, trivial⟩
    refine then_n ?_
    refine wp_seq ?_
    refine wp_seq ?_
    refine wp_region_lit ?_
    refine wl (d_move rfl) rfl hF (fun a hF => ?_)
    refine wl (d_bool (c := false) (d_neq rfl rfl) (by decide)) rfl hF (fun a hF => ?_)
    refine wl (d_move rfl) rfl hF (fun a hF => ?_)
    refine wlg rfl (d_move rfl) rfl hF (fun a hF => ?_)
    refine wlg rfl (d_bool (c := false) (d_neq rfl rfl) (by decide)) rfl hF (fun a hF => ?_)
    refine wl (d_pick (b := false) rfl rfl) rfl hF (fun a hF => ?_)
    refine wl (d_move rfl) rfl hF (fun a hF => ?_)
    refine wlg rfl (d_loadA Try.underlying26 rfl sz26 rfl (hM.at 3 rfl) (cl_size _ _ _)) rfl hF (fun a hF => ?_)
    refine wlg rfl (d_loadA Try.underlying27 rfl sz27 rfl (hM.at 1 rfl) (cl_size _ _ _)) rfl hF (fun a hF => ?_)
    refine wlgR rfl (ok_call c13 rfl (is_true h12 _)) rfl hF ?_
    rintro _ w a ⟨rfl, hg⟩ hF
    have hM := hM.call hg
    refine wlg rfl (d_bool (c := false) (d_not (b := true) rfl) rfl) rfl hF (fun a hF => ?_)
    refine wl (d_pick (b := false) rfl rfl) rfl hF (fun a hF => ?_)
    refine wl_nil ?_
    have hF := hF.sub (L' := [(0, (Value.slice ada n ca)), (1, (Value.int .i64 (d : Int))), (4, (Value.bool false)), (5, (Value.pointer (some ⟨b1, 0, none⟩))), (6, (Value.pointer (some ⟨b2, 0, none⟩))), (7, (Value.slice (some ⟨b3, 0, none⟩) 384 384)), (8, (Value.int .i64 0)), (9, (Value.pointer (some ⟨b4, 0, none⟩))), (10, (Value.int .i64 0)), (29, (Value.bool false)), (38, (Value.bool (!(sMay (pl n X))))), (61, (Value.bool false))]) ⟨rfl, rfl, rfl, rfl, rfl, rfl, rfl, rfl, rfl, rfl, rfl, rfl, trivial⟩
    refine then_n ?_
    refine wp_cond_false (hF.eval rfl) ?_
    refine wp_skip ?_
    refine then_n ?_
    refine wp_seq ?_
    refine wp_seq ?_
    refine wp_region_lit ?_
    refine wl (d_move rfl) rfl hF (fun a hF => ?_)
    refine wl (d_eql rfl rfl) rfl hF (fun a hF => ?_)
    refine wl_nil ?_
    have hF := hF.sub (L' := [(0, (Value.slice ada n ca)), (1, (Value.int .i64 (d : Int))), (4, (Value.bool false)), (5, (Value.pointer (some ⟨b1, 0, none⟩))), (6, (Value.pointer (some ⟨b2, 0, none⟩))), (7, (Value.slice (some ⟨b3, 0, none⟩) 384 384)), (8, (Value.int .i64 0)), (9, (Value.pointer (some ⟨b4, 0, none⟩))), (10, (Value.int .i64 0)), (29, (Value.bool false)), (38, (Value.bool (!(sMay (pl n X))))), (61, (Value.bool false)), (63, (Value.bool (decide ((d : Int) = 12))))]) ⟨rfl, rfl, rfl, rfl, rfl, rfl, rfl, rfl, rfl, rfl, rfl, rfl, rfl, trivial⟩
    refine then_n ?_
    refine wp_if hF rfl (fun h => ?_) (fun h => ?_)
    · have hd12 := of_decide_eq_true h
      clear h
      refine wp_seq ?_
      refine wp_region_lit ?_
      refine wlR (ok_call c9 rfl (awake_calls _)) rfl hF ?_
      rintro _ w a ⟨rfl, hg⟩ hF
      have hM := hM.call hg
      refine wl (d_assign rfl) rfl hF (fun a hF => ?_)
      refine wl_nil ?_
      have hF := hF.sub (L' := [(0, (Value.slice ada n ca)), (1, (Value.int .i64 (d : Int))), (4, (Value.bool true)), (5, (Value.pointer (some ⟨b1, 0, none⟩))), (6, (Value.pointer (some ⟨b2, 0, none⟩))), (7, (Value.slice (some ⟨b3, 0, none⟩) 384 384)), (8, (Value.int .i64 0)), (9, (Value.pointer (some ⟨b4, 0, none⟩))), (10, (Value.int .i64 0)), (29, (Value.bool false)), (38, (Value.bool (!(sMay (pl n X))))), (61, (Value.bool false)), (63, (Value.bool (decide ((d : Int) = 12))))]) ⟨rfl, rfl, rfl, rfl, rfl, rfl, rfl, rfl, rfl, rfl, rfl, rfl, rfl, trivial⟩
      refine then_n ?_
      refine wp_ret ?_
      refine then_ret ?_
      refine body_ret hF (results1 Try.results6 (RV.tmp hF rfl)) ?_
      exact ⟨rfl, hM.below⟩
    · have hd12 := of_decide_eq_false h
      clear h
      have hd11 : d ≤ 11 := by omega
      refine wp_skip ?_
      refine then_n ?_
      refine wp_seq ?_
      have huc : U16 (comp d (pl n X)) := fun i _ => by have h1 := comp_b d (pl n X) i; have h2 := pow_le' hd11; simp at h2; omega
      have hdd : ∀ i, i < 256 → unp d (enc d (comp d (pl n X))) i = comp d (pl n X) i := fun i _ => unpd (by omega) _ i
      refine wp_region_lit ?_
      refine wl (d_loadA Try.underlying26 rfl sz26 rfl (hM.at 0 rfl) (cl_size _ _ _)) rfl hF (fun a hF => ?_)
      refine wl (d_move rfl) rfl hF (fun a hF => ?_)
      refine wlR (ok_call c29 rfl (Compress_calls (d := d) (pl_u hxa) (by omega) _)) rfl hF ?_
      rintro _ w a ⟨rfl, hg⟩ hF
      have hM := hM.call hg
      refine wl (d_move rfl) rfl hF (fun a hF => ?_)
      refine wl (d_extract (v := (Value.agg (cl .u16 256 (comp d (pl n X))))) rfl rfl) rfl hF (fun a hF => ?_)
      refine wl (d_extract (v := (Value.int .i64 0)) rfl rfl) rfl hF (fun a hF => ?_)
      refine wlR (ok_alloc z26) rfl hF ?_
      rintro _ w a ⟨b5, rfl, hnb_⟩ hF
      have hM : Mem w0 w [(b1, cl .u16 256 (pl n X), 26), (b2, cl .u16 256 (pl n X), 27), (b3, cl .u8 384 (enc 12 (pl n X)), 5), (b4, cl .u16 256 (unp 12 (enc 12 (pl n X))), 26), (b5, cl .u16 256 fun _ => 0, 26)] := hM.alloc hnb_
      refine wl0R (ok_storeA (c' := cl .u16 256 (comp d (pl n X))) sz26 rfl rfl (cl_size _ _ _) (cl_one _ _ _) (hM.at 4 rfl) (cl_size _ _ _)) hF ?_
      rintro w a hu hF
      have hM : Mem w0 w [(b1, cl .u16 256 (pl n X), 26), (b2, cl .u16 256 (pl n X), 27), (b3, cl .u8 384 (enc 12 (pl n X)), 5), (b4, cl .u16 256 (unp 12 (enc 12 (pl n X))), 26), (b5, cl .u16 256 (comp d (pl n X)), 26)] := hM.upd 4 rfl hu
      refine wl (d_assign rfl) rfl hF (fun a hF => ?_)
      refine wl_nil ?_
      have hF := hF.sub (L' := [(0, (Value.slice ada n ca)), (1, (Value.int .i64 (d : Int))), (4, (Value.bool false)), (5, (Value.pointer (some ⟨b1, 0, none⟩))), (6, (Value.pointer (some ⟨b2, 0, none⟩))), (7, (Value.slice (some ⟨b3, 0, none⟩) 384 384)), (8, (Value.int .i64 0)), (9, (Value.pointer (some ⟨b4, 0, none⟩))), (10, (Value.int .i64 0)), (11, (Value.pointer (some ⟨b5, 0, none⟩))), (29, (Value.bool false)), (38, (Value.bool (!(sMay (pl n X))))), (61, (Value.bool false)), (63, (Value.bool (decide ((d : Int) = 12))))]) ⟨rfl, rfl, rfl, rfl, rfl, rfl, rfl, rfl, rfl, rfl, rfl, rfl, rfl, rfl, trivial⟩
      refine then_n ?_
      refine wp_seq ?_
      refine wp_region_lit ?_
      refine wl (d_loadA Try.underlying26 rfl sz26 rfl (hM.at 4 rfl) (cl_size _ _ _)) rfl hF (fun a hF => ?_)
      refine wl (d_move rfl) rfl hF (fun a hF => ?_)
      refine wlR (ok_call c30 rfl (Expand_calls (d := d) huc (by omega) _)) rfl hF ?_
      rintro _ w a ⟨rfl, hg⟩ hF
      have hM := hM.call hg
      refine wl (d_move rfl) rfl hF (fun a hF => ?_)
      refine wl (d_extract (v := (Value.agg (cl .u16 256 (expa d (comp d (pl n X)))))) rfl rfl) rfl hF (fun a hF => ?_)
      refine wl (d_extract (v := (Value.int .i64 0)) rfl rfl) rfl hF (fun a hF => ?_)
      refine wlR (ok_alloc z26) rfl hF ?_
      rintro _ w a ⟨b6, rfl, hnb_⟩ hF
      have hM : Mem w0 w [(b1, cl .u16 256 (pl n X), 26), (b2, cl .u16 256 (pl n X), 27), (b3, cl .u8 384 (enc 12 (pl n X)), 5), (b4, cl .u16 256 (unp 12 (enc 12 (pl n X))), 26), (b5, cl .u16 256 (comp d (pl n X)), 26), (b6, cl .u16 256 fun _ => 0, 26)] := hM.alloc hnb_
      refine wl0R (ok_storeA (c' := cl .u16 256 (expa d (comp d (pl n X)))) sz26 rfl rfl (cl_size _ _ _) (cl_one _ _ _) (hM.at 5 rfl) (cl_size _ _ _)) hF ?_
      rintro w a hu hF
      have hM : Mem w0 w [(b1, cl .u16 256 (pl n X), 26), (b2, cl .u16 256 (pl n X), 27), (b3, cl .u8 384 (enc 12 (pl n X)), 5), (b4, cl .u16 256 (unp 12 (enc 12 (pl n X))), 26), (b5, cl .u16 256 (comp d (pl n X)), 26), (b6, cl .u16 256 (expa d (comp d (pl n X))), 26)] := hM.upd 5 rfl hu
      refine wl (d_assign rfl) rfl hF (fun a hF => ?_)
      refine wl_nil ?_
      have hF := hF.sub (L' := [(0, (Value.slice ada n ca)), (1, (Value.int .i64 (d : Int))), (4, (Value.bool false)), (5, (Value.pointer (some ⟨b1, 0, none⟩))), (6, (Value.pointer (some ⟨b2, 0, none⟩))), (7, (Value.slice (some ⟨b3, 0, none⟩) 384 384)), (8, (Value.int .i64 0)), (9, (Value.pointer (some ⟨b4, 0, none⟩))), (10, (Value.int .i64 0)), (11, (Value.pointer (some ⟨b5, 0, none⟩))), (12, (Value.pointer (some ⟨b6, 0, none⟩))), (29, (Value.bool false)), (38, (Value.bool (!(sMay (pl n X))))), (61, (Value.bool false)), (63, (Value.bool (decide ((d : Int) = 12))))]) ⟨rfl, rfl, rfl, rfl, rfl, rfl, rfl, rfl, rfl, rfl, rfl, rfl, rfl, rfl, rfl, trivial⟩
      refine then_n ?_
      refine wp_seq ?_
      refine wp_region_lit ?_
      refine wl (d_loadA Try.underlying26 rfl sz26 rfl (hM.at 4 rfl) (cl_size _ _ _)) rfl hF (fun a hF => ?_)
      refine wl (d_move rfl) rfl hF (fun a hF => ?_)
      refine wlR (ok_call c27 rfl (Encode_calls (d := d) (n := n2) huc (by omega) (by omega) _)) rfl hF ?_
      rintro _ w a ⟨⟨b7, rfl, hnb, hcb⟩, hg⟩ hF
      have hM : Mem w0 w [(b1, cl .u16 256 (pl n X), 26), (b2, cl .u16 256 (pl n X), 27), (b3, cl .u8 384 (enc 12 (pl n X)), 5), (b4, cl .u16 256 (unp 12 (enc 12 (pl n X))), 26), (b5, cl .u16 256 (comp d (pl n X)), 26), (b6, cl .u16 256 (expa d (comp d (pl n X))), 26), (b7, cl .u8 n2 (enc d (comp d (pl n X))), 5)] := hM.adopt hg hnb hcb
      refine wl (d_move rfl) rfl hF (fun a hF => ?_)
      refine wl (d_extract (v := (Value.slice (some ⟨b7, 0, none⟩) n2 n2)) rfl rfl) rfl hF (fun a hF => ?_)
      refine wl (d_extract (v := (Value.int .i64 0)) rfl rfl) rfl hF (fun a hF => ?_)
      refine wl (d_assign rfl) rfl hF (fun a hF => ?_)
      refine wl (d_assign rfl) rfl hF (fun a hF => ?_)
      refine wl_nil ?_
      have hF := hF.sub (L' := [(0, (Value.slice ada n ca)), (1, (Value.int .i64 (d : Int))), (4, (Value.bool false)), (5, (Value.pointer (some ⟨b1, 0, none⟩))), (6, (Value.pointer (some ⟨b2, 0, none⟩))), (7, (Value.slice (some ⟨b3, 0, none⟩) 384 384)), (8, (Value.int .i64 0)), (9, (Value.pointer (some ⟨b4, 0, none⟩))), (10, (Value.int .i64 0)), (11, (Value.pointer (some ⟨b5, 0, none⟩))), (12, (Value.pointer (some ⟨b6, 0, none⟩))), (13, (Value.slice (some ⟨b7, 0, none⟩) n2 n2)), (14, (Value.int .i64 0)), (29, (Value.bool false)), (38, (Value.bool (!(sMay (pl n X))))), (61, (Value.bool false)), (63, (Value.bool (decide ((d : Int) = 12))))]) ⟨rfl, rfl, rfl, rfl, rfl, rfl, rfl, rfl, rfl, rfl, rfl, rfl, rfl, rfl, rfl, rfl, rfl, trivial⟩
      refine then_n ?_
      refine wp_seq ?_
      refine wp_region_lit ?_
      refine wl (d_move rfl) rfl hF (fun a hF => ?_)
      refine wl (d_move rfl) rfl hF (fun a hF => ?_)
      refine wlR (ok_call c28 rfl (Decode_calls (d := d) (n := n2) (B := (enc d (comp d (pl n X)))) (by omega) (fun h => by omega) (by omega) (fun j hj => by rw [Nat.zero_add]; exact hM.cell 6 rfl (cl_get hj)) (fun j _ => enc_b _ _ j))) rfl hF ?_
      rintro _ w a ⟨rfl, hg⟩ hF
      have hM := hM.call hg
      refine wl (d_move rfl) rfl hF (fun a hF => ?_)
      refine wl (d_extract (v := (Value.agg (cl .u16 256 (unp d (enc d (comp d (pl n X))))))) rfl rfl) rfl hF (fun a hF => ?_)
      refine wl (d_extract (v := (Value.int .i64 0)) rfl rfl) rfl hF (fun a hF => ?_)
      refine wlR (ok_alloc z26) rfl hF ?_
      rintro _ w a ⟨b8, rfl, hnb_⟩ hF
      have hM : Mem w0 w [(b1, cl .u16 256 (pl n X), 26), (b2, cl .u16 256 (pl n X), 27), (b3, cl .u8 384 (enc 12 (pl n X)), 5), (b4, cl .u16 256 (unp 12 (enc 12 (pl n X))), 26), (b5, cl .u16 256 (comp d (pl n X)), 26), (b6, cl .u16 256 (expa d (comp d (pl n X))), 26), (b7, cl .u8 n2 (enc d (comp d (pl n X))), 5), (b8, cl .u16 256 fun _ => 0, 26)] := hM.alloc hnb_
      refine wl0R (ok_storeA (c' := cl .u16 256 (unp d (enc d (comp d (pl n X))))) sz26 rfl rfl (cl_size _ _ _) (cl_one _ _ _) (hM.at 7 rfl) (cl_size _ _ _)) hF ?_
      rintro w a hu hF
      have hM : Mem w0 w [(b1, cl .u16 256 (pl n X), 26), (b2, cl .u16 256 (pl n X), 27), (b3, cl .u8 384 (enc 12 (pl n X)), 5), (b4, cl .u16 256 (unp 12 (enc 12 (pl n X))), 26), (b5, cl .u16 256 (comp d (pl n X)), 26), (b6, cl .u16 256 (expa d (comp d (pl n X))), 26), (b7, cl .u8 n2 (enc d (comp d (pl n X))), 5), (b8, cl .u16 256 (unp d (enc d (comp d (pl n X)))), 26)] := hM.upd 7 rfl hu
      refine wl (d_assign rfl) rfl hF (fun a hF => ?_)
      refine wl_nil ?_
      have hF := hF.sub (L' := [(0, (Value.slice ada n ca)), (1, (Value.int .i64 (d : Int))), (4, (Value.bool false)), (5, (Value.pointer (some ⟨b1, 0, none⟩))), (6, (Value.pointer (some ⟨b2, 0, none⟩))), (7, (Value.slice (some ⟨b3, 0, none⟩) 384 384)), (8, (Value.int .i64 0)), (9, (Value.pointer (some ⟨b4, 0, none⟩))), (10, (Value.int .i64 0)), (11, (Value.pointer (some ⟨b5, 0, none⟩))), (12, (Value.pointer (some ⟨b6, 0, none⟩))), (13, (Value.slice (some ⟨b7, 0, none⟩) n2 n2)), (14, (Value.int .i64 0)), (15, (Value.pointer (some ⟨b8, 0, none⟩))), (16, (Value.int .i64 0)), (29, (Value.bool false)), (38, (Value.bool (!(sMay (pl n X))))), (61, (Value.bool false)), (63, (Value.bool (decide ((d : Int) = 12))))]) ⟨rfl, rfl, rfl, rfl, rfl, rfl, rfl, rfl, rfl, rfl, rfl, rfl, rfl, rfl, rfl, rfl, rfl, rfl, rfl, trivial⟩
      refine then_n ?_
      refine wp_seq ?_
      refine wp_seq ?_
      refine region_plan Tt mo (fun ph_ w => Mem w0 w (([[(b1, cl .u16 256 (pl n X), 26), (b2, cl .u16 256 (pl n X), 27), (b3, cl .u8 384 (enc 12 (pl n X)), 5), (b4, cl .u16 256 (unp 12 (enc 12 (pl n X))), 26), (b5, cl .u16 256 (comp d (pl n X)), 26), (b6, cl .u16 256 (expa d (comp d (pl n X))), 26), (b7, cl .u8 n2 (enc d (comp d (pl n X))), 5), (b8, cl .u16 256 (unp d (enc d (comp d (pl n X)))), 26)]] : List (List Blk)).getD ph_ [])) [] (rows := [⟨[], [(8, (Value.int .i64 0))], [0], .val (Value.int .i64 0)⟩, ⟨[(0, 89)], [], [0], .val (Value.bool false)⟩, ⟨[(1, 90)], [], [0], .val (Value.bool false)⟩, ⟨[(2, 91)], [(10, (Value.int .i64 0))], [0], .val (Value.int .i64 0)⟩, ⟨[(3, 92), (2, 91)], [], [0], .val (Value.bool false)⟩, ⟨[(2, 91), (4, 93)], [], [0], .val (Value.bool false)⟩, ⟨[(5, 94)], [], [0], .val (Value.bool false)⟩, ⟨[(6, 95)], [(14, (Value.int .i64 0))], [0], .val (Value.int .i64 0)⟩, ⟨[(7, 96), (6, 95)], [], [0], .val (Value.bool false)⟩, ⟨[(6, 95), (8, 97)], [], [0], .val (Value.bool false)⟩, ⟨[(9, 98)], [], [0], .val (Value.bool false)⟩, ⟨[(10, 99)], [(16, (Value.int .i64 0))], [0], .val (Value.int .i64 0)⟩, ⟨[(11, 100), (10, 99)], [], [0], .val (Value.bool false)⟩, ⟨[(10, 99), (12, 101)], [], [0], .val (Value.bool false)⟩, ⟨[(13, 102)], [], [0], .val (Value.bool false)⟩, ⟨[(14, 103)], [(13, (Value.slice (some ⟨b7, 0, none⟩) n2 n2))], [0], .val (Value.slice (some ⟨b7, 0, none⟩) n2 n2)⟩, ⟨[(15, 104), (14, 103)], [], [0], .val (Value.int .i64 (n2 : Int))⟩, ⟨[(14, 103)], [(1, (Value.int .i64 (d : Int)))], [0], .val (Value.int .i64 (d : Int))⟩, ⟨[(17, 106), (14, 103)], [], [0], .val (Value.int .i64 (32 * (d : Int)))⟩, ⟨[(16, 105), (18, 107), (14, 103)], [], [0], .val (Value.bool false)⟩, ⟨[(14, 103), (19, 108)], [], [0], .val (Value.bool false)⟩, ⟨[(20, 109)], [], [0], .val (Value.bool false)⟩, ⟨[(21, 110)], [(15, (Value.pointer (some ⟨b8, 0, none⟩)))], [0], .val (Value.agg (cl .u16 256 (unp d (enc d (comp d (pl n X))))))⟩, ⟨[(21, 110)], [(11, (Value.pointer (some ⟨b5, 0, none⟩)))], [0], .val (Value.agg (cl .u16 256 (comp d (pl n X))))⟩, ⟨[(23, 112), (21, 110)], [], [0], .val (Value.agg (cl .u16 256 (comp d (pl n X))))⟩, ⟨[(22, 111), (24, 113), (21, 110)], [], [0], .val (Value.bool true)⟩, ⟨[(25, 114), (21, 110)], [], [0], .val (Value.bool false)⟩, ⟨[(21, 110), (26, 115)], [], [0], .val (Value.bool false)⟩]) (by kernel_rfl) hF hM.drew ?_ ?_
      · refine ⟨?_, ?_, ?_, ?_, ?_, ?_, ?_, ?_, ?_, ?_, ?_, ?_, ?_, ?_, ?_, ?_, ?_, ?_, ?_, ?_, ?_, ?_, ?_, ?_, ?_, ?_, ?_, ?_, trivial⟩
        · exact ⟨⟨rfl, trivial⟩, fun ph_ _ vs w hW _ => Det.ob hW (d_move rfl)⟩
        · exact ⟨trivial, fun ph_ _ vs w hW _ => Det.ob hW (d_bool (c := false) (d_neq rfl rfl) (by decide))⟩
        · exact ⟨trivial, fun ph_ _ vs w hW _ => Det.ob hW (d_move rfl)⟩
        · exact ⟨⟨rfl, trivial⟩, fun ph_ _ vs w hW _ => ⟨false, _, rfl, rfl, Det.ob hW (d_move rfl)⟩⟩
        · exact ⟨trivial, fun ph_ _ vs w hW _ => ⟨false, _, rfl, rfl, Det.ob hW (d_bool (c := false) (d_neq rfl rfl) (by decide))⟩⟩
        · exact ⟨trivial, fun ph_ _ vs w hW _ => Det.ob hW (d_pick (b := false) rfl rfl)⟩
        · exact ⟨trivial, fun ph_ _ vs w hW _ => Det.ob hW (d_move rfl)⟩
        · exact ⟨⟨rfl, trivial⟩, fun ph_ _ vs w hW _ => ⟨false, _, rfl, rfl, Det.ob hW (d_move rfl)⟩⟩
        · exact ⟨trivial, fun ph_ _ vs w hW _ => ⟨false, _, rfl, rfl, Det.ob hW (d_bool (c := false) (d_neq rfl rfl) (by decide))⟩⟩
        · exact ⟨trivial, fun ph_ _ vs w hW _ => Det.ob hW (d_pick (b := false) rfl rfl)⟩
        · exact ⟨trivial, fun ph_ _ vs w hW _ => Det.ob hW (d_move rfl)⟩
        · exact ⟨⟨rfl, trivial⟩, fun ph_ _ vs w hW _ => ⟨false, _, rfl, rfl, Det.ob hW (d_move rfl)⟩⟩
        · exact ⟨trivial, fun ph_ _ vs w hW _ => ⟨false, _, rfl, rfl, Det.ob hW (d_bool (c := false) (d_neq rfl rfl) (by decide))⟩⟩
        · exact ⟨trivial, fun ph_ _ vs w hW _ => Det.ob hW (d_pick (b := false) rfl rfl)⟩
        · exact ⟨trivial, fun ph_ _ vs w hW _ => Det.ob hW (d_move rfl)⟩
        · exact ⟨⟨rfl, trivial⟩, fun ph_ _ vs w hW _ => ⟨false, _, rfl, rfl, Det.ob hW (d_move rfl)⟩⟩
        · exact ⟨trivial, fun ph_ _ vs w hW _ => ⟨false, _, rfl, rfl, Det.ob hW (d_len_slice Try.underlying39 rfl)⟩⟩
        · exact ⟨⟨rfl, trivial⟩, fun ph_ _ vs w hW _ => ⟨false, _, rfl, rfl, Det.ob hW (d_move rfl)⟩⟩
        · exact ⟨trivial, fun ph_ _ vs w hW _ => ⟨false, _, rfl, rfl, Det.ob hW (d_mul rfl rfl (wrap_i64 (by omega) (by omega)))⟩⟩
        · exact ⟨trivial, fun ph_ _ vs w hW _ => ⟨false, _, rfl, rfl, Det.ob hW (d_bool (c := false) (d_neq rfl rfl) (by rw [decide_eq_true (by omega)]; rfl))⟩⟩
        · exact ⟨trivial, fun ph_ _ vs w hW _ => Det.ob hW (d_pick (b := false) rfl rfl)⟩
        · exact ⟨trivial, fun ph_ _ vs w hW _ => Det.ob hW (d_move rfl)⟩
        · refine ⟨⟨rfl, trivial⟩, fun ph_ hp_ vs w hW _ => ?_⟩
          obtain rfl := memN_one hp_
          have hM : Mem w0 w [(b1, cl .u16 256 (pl n X), 26), (b2, cl .u16 256 (pl n X), 27), (b3, cl .u8 384 (enc 12 (pl n X)), 5), (b4, cl .u16 256 (unp 12 (enc 12 (pl n X))), 26), (b5, cl .u16 256 (comp d (pl n X)), 26), (b6, cl .u16 256 (expa d (comp d (pl n X))), 26), (b7, cl .u8 n2 (enc d (comp d (pl n X))), 5), (b8, cl .u16 256 (unp d (enc d (comp d (pl n X)))), 26)] := hW
          exact ⟨false, _, rfl, rfl, Det.ob hW (d_loadA Try.underlying26 rfl sz26 rfl (hM.at 7 rfl) (cl_size _ _ _))⟩
        · refine ⟨⟨rfl, trivial⟩, fun ph_ hp_ vs w hW _ => ?_⟩
          obtain rfl := memN_one hp_
          have hM : Mem w0 w [(b1, cl .u16 256 (pl n X), 26), (b2, cl .u16 256 (pl n X), 27), (b3, cl .u8 384 (enc 12 (pl n X)), 5), (b4, cl .u16 256 (unp 12 (enc 12 (pl n X))), 26), (b5, cl .u16 256 (comp d (pl n X)), 26), (b6, cl .u16 256 (expa d (comp d (pl n X))), 26), (b7, cl .u8 n2 (enc d (comp d (pl n X))), 5), (b8, cl .u16 256 (unp d (enc d (comp d (pl n X)))), 26)] := hW
          exact ⟨false, _, rfl, rfl, Det.ob hW (d_loadA Try.underlying26 rfl sz26 rfl (hM.at 4 rfl) (cl_size _ _ _))⟩
        · exact ⟨trivial, fun ph_ _ vs w hW _ => ⟨false, _, rfl, rfl, Ok1.obc (fun w' g => Mem.call hW g) (ok_call c18 rfl (f2_calls _ _))⟩⟩
        · exact ⟨trivial, fun ph_ _ vs w hW _ => ⟨false, _, rfl, rfl, Ok1.obc (fun w' g => Mem.call hW g) (ok_call c13 rfl (is_true hdd _))⟩⟩
        · exact ⟨trivial, fun ph_ _ vs w hW _ => ⟨false, _, rfl, rfl, Det.ob hW (d_bool (c := false) (d_not (b := true) rfl) rfl)⟩⟩
        · exact ⟨trivial, fun ph_ _ vs w hW _ => Det.ob hW (d_pick (b := false) rfl rfl)⟩
      · intro a w vs hW _ hF
        have hM : Mem w0 w [(b1, cl .u16 256 (pl n X), 26), (b2, cl .u16 256 (pl n X), 27), (b3, cl .u8 384 (enc 12 (pl n X)), 5), (b4, cl .u16 256 (unp 12 (enc 12 (pl n X))), 26), (b5, cl .u16 256 (comp d (pl n X)), 26), (b6, cl .u16 256 (expa d (comp d (pl n X))), 26), (b7, cl .u8 n2 (enc d (comp d (pl n X))), 5), (b8, cl .u16 256 (unp d (enc d (comp d (pl n X)))), 26)] := hW
        have hF := hF.sub (L' := [(0, (Value.slice ada n ca)), (1, (Value.int .i64 (d : Int))), (4, (Value.bool false)), (5, (Value.pointer (some ⟨b1, 0, none⟩))), (6, (Value.pointer (some ⟨b2, 0, none⟩))), (7, (Value.slice (some ⟨b3, 0, none⟩) 384 384)), (8, (Value.int .i64 0)), (9, (Value.pointer (some ⟨b4, 0, none⟩))), (10, (Value.int .i64 0)), (11, (Value.pointer (some ⟨b5, 0, none⟩))), (12, (Value.pointer (some ⟨b6, 0, none⟩))), (13, (Value.slice (some ⟨b7, 0, none⟩) n2 n2)), (14, (Value.int .i64 0)), (15, (Value.pointer (some ⟨b8, 0, none⟩))), (16, (Value.int .i64 0)), (29, (Value.bool false)), (38, (Value.bool (!(sMay (pl n X))))), (61, (Value.bool false)), (63, (Value.bool (decide ((d : Int) = 12)))), (116, (Value.bool false))]) ⟨rfl, rfl, rfl, rfl, rfl, rfl, rfl, rfl, rfl, rfl, rfl, rfl, rfl, rfl, rfl, rfl, rfl, rfl, rfl, rfl, trivial⟩
        refine then_n ?_
        refine wp_cond_false (hF.eval rfl) ?_
        refine wp_skip ?_
        refine then_n ?_
        refine wp_seq ?_
        refine wp_seq ?_
        refine wp_region_lit ?_
        refine wl (d_assign rfl) rfl hF (fun a hF => ?_)
        refine wl_nil ?_
        have hF := hF.sub (L' := [(0, (Value.slice ada n ca)), (1, (Value.int .i64 (d : Int))), (4, (Value.bool false)), (5, (Value.pointer (some ⟨b1, 0, none⟩))), (6, (Value.pointer (some ⟨b2, 0, none⟩))), (7, (Value.slice (some ⟨b3, 0, none⟩) 384 384)), (8, (Value.int .i64 0)), (9, (Value.pointer (some ⟨b4, 0, none⟩))), (10, (Value.int .i64 0)), (11, (Value.pointer (some ⟨b5, 0, none⟩))), (12, (Value.pointer (some ⟨b6, 0, none⟩))), (13, (Value.slice (some ⟨b7, 0, none⟩) n2 n2)), (14, (Value.int .i64 0)), (15, (Value.pointer (some ⟨b8, 0, none⟩))), (16, (Value.int .i64 0)), (17, (Value.int .i64 0)), (29, (Value.bool false)), (38, (Value.bool (!(sMay (pl n X))))), (61, (Value.bool false)), (63, (Value.bool (decide ((d : Int) = 12)))), (116, (Value.bool false))]) ⟨rfl, rfl, rfl, rfl, rfl, rfl, rfl, rfl, rfl, rfl, rfl, rfl, rfl, rfl, rfl, rfl, rfl, rfl, rfl, rfl, rfl, trivial⟩
        refine then_n ?_
        refine wp_block ?_
        refine wp_loop_k (fun fu_ a w => ∃ k : Nat, fu_ = 256 - k ∧ (k ≤ 256) ∧ Frm a 155 [(1, (Value.int .i64 (d : Int))), (5, (Value.pointer (some ⟨b1, 0, none⟩))), (11, (Value.pointer (some ⟨b5, 0, none⟩))), (12, (Value.pointer (some ⟨b6, 0, none⟩))), (17, (Value.int .i64 (k : Int)))] ∧ Mem w0 w [(b1, cl .u16 256 (pl n X), 26), (b2, cl .u16 256 (pl n X), 27), (b3, cl .u8 384 (enc 12 (pl n X)), 5), (b4, cl .u16 256 (unp 12 (enc 12 (pl n X))), 26), (b5, cl .u16 256 (comp d (pl n X)), 26), (b6, cl .u16 256 (expa d (comp d (pl n X))), 26), (b7, cl .u8 n2 (enc d (comp d (pl n X))), 5), (b8, cl .u16 256 (unp d (enc d (comp d (pl n X)))), 26)]) _ ⟨0, rfl, (by omega), hF.sub ⟨rfl, rfl, rfl, rfl, rfl, trivial⟩, ?_⟩ ?_
        · exact hM
        rintro _ a w ⟨k, rfl, hl1_0, hF, hM⟩
        refine wp_seq ?_
        refine wp_seq ?_
        refine wp_region_lit ?_
        refine wl (d_move rfl) rfl hF (fun a hF => ?_)
        refine wl (d_lss rfl rfl) rfl hF (fun a hF => ?_)
        refine wl_nil ?_
        have hF := hF.sub (L' := [(1, (Value.int .i64 (d : Int))), (5, (Value.pointer (some ⟨b1, 0, none⟩))), (11, (Value.pointer (some ⟨b5, 0, none⟩))), (12, (Value.pointer (some ⟨b6, 0, none⟩))), (17, (Value.int .i64 (k : Int))), (118, (Value.bool (decide ((k : Int) < 256))))]) ⟨rfl, rfl, rfl, rfl, rfl, rfl, trivial⟩
        refine then_n ?_
        refine wp_if hF rfl (fun h => ?_) (fun h => ?_)
        · have hlt := of_decide_eq_true h
          clear h
          have hfk0 := pl_u hxa k (by omega)
          have hfk1 := sMay_true hmay k (by omega)
          have hfk : 0 ≤ pl n X k ∧ pl n X k < 3329 := by omega
          have hck := comp_b d (pl n X) k
          have huk := expa_b (d := d) (by omega) hd11 (comp d (pl n X)) k
          have hp := pow_pos' d
          have hp2 := pow_le' hd11
          simp at hp2
          have hp3 := pow_pos' (d + 1)
          have hp4 := pow_le' (show d + 1 ≤ 12 by omega)
          simp at hp4
          have hem := Int.emod_nonneg (expa d (comp d (pl n X)) k - pl n X k) (show (3329 : Int) ≠ 0 by omega)
          have hel := Int.emod_lt_of_pos (expa d (comp d (pl n X)) k - pl n X k) (show (0 : Int) < 3329 by omega)
          refine wp_skip ?_
          refine then_n ?_
          refine wp_seq ?_
          refine wp_block ?_
          refine wp_seq ?_
          refine region_plan Tt mo (fun ph_ w => Mem w0 w (([[(b1, cl .u16 256 (pl n X), 26), (b2, cl .u16 256 (pl n X), 27), (b3, cl .u8 384 (enc 12 (pl n X)), 5), (b4, cl .u16 256 (unp 12 (enc 12 (pl n X))), 26), (b5, cl .u16 256 (comp d (pl n X)), 26), (b6, cl .u16 256 (expa d (comp d (pl n X))), 26), (b7, cl .u8 n2 (enc d (comp d (pl n X))), 5), (b8, cl .u16 256 (unp d (enc d (comp d (pl n X)))), 26)]] : List (List Blk)).getD ph_ [])) [] (rows := [⟨[], [(17, (Value.int .i64 (k : Int)))], [0], .val (Value.int .i64 (k : Int))⟩, ⟨[(0, 121)], [(12, (Value.pointer (some ⟨b6, 0, none⟩)))], [0], .val (Value.pointer (some ⟨b6, k, none⟩))⟩, ⟨[(1, 122)], [], [0], .val (Value.int .u16 ((expa d (comp d (pl n X))) k))⟩, ⟨[(2, 123)], [], [0], .val (Value.int .i64 ((expa d (comp d (pl n X))) k))⟩, ⟨[], [(17, (Value.int .i64 (k : Int)))], [0], .val (Value.int .i64 (k : Int))⟩, ⟨[(4, 125)], [(5, (Value.pointer (some ⟨b1, 0, none⟩)))], [0], .val (Value.pointer (some ⟨b1, k, none⟩))⟩, ⟨[(5, 126)], [], [0], .val (Value.int .u16 ((pl n X) k))⟩, ⟨[(6, 127)], [], [0], .val (Value.int .i64 ((pl n X) k))⟩, ⟨[(3, 124), (7, 128)], [], [0], .val (Value.int .i64 ((expa d (comp d (pl n X))) k - (pl n X) k))⟩, ⟨[(8, 129)], [], [0], .val (Value.int .i64 (((expa d (comp d (pl n X))) k - (pl n X) k) % 3329))⟩, ⟨[(9, 130)], [], [0], .val (Value.int .i64 (((expa d (comp d (pl n X))) k - (pl n X) k) % 3329))⟩]) (by kernel_rfl) hF hM.drew ?_ ?_
          · refine ⟨?_, ?_, ?_, ?_, ?_, ?_, ?_, ?_, ?_, ?_, ?_, trivial⟩
            · exact ⟨⟨rfl, trivial⟩, fun ph_ _ vs w hW _ => Det.ob hW (d_move rfl)⟩
            · exact ⟨⟨rfl, trivial⟩, fun ph_ _ vs w hW _ => Det.ob hW (d_ixA0 (j := k) Try.underlying26 sz24 rfl rfl rfl (by omega))⟩
            · refine ⟨trivial, fun ph_ hp_ vs w hW _ => ?_⟩
              obtain rfl := memN_one hp_
              have hM : Mem w0 w [(b1, cl .u16 256 (pl n X), 26), (b2, cl .u16 256 (pl n X), 27), (b3, cl .u8 384 (enc 12 (pl n X)), 5), (b4, cl .u16 256 (unp 12 (enc 12 (pl n X))), 26), (b5, cl .u16 256 (comp d (pl n X)), 26), (b6, cl .u16 256 (expa d (comp d (pl n X))), 26), (b7, cl .u8 n2 (enc d (comp d (pl n X))), 5), (b8, cl .u16 256 (unp d (enc d (comp d (pl n X)))), 26)] := hW
              exact Det.ob hW (d_load1 Try.underlying24 rfl rfl (hM.cell 5 rfl (cl_get (by omega))))
            · exact ⟨trivial, fun ph_ _ vs w hW _ => Det.ob hW (d_conv Try.underlying24 Try.underlying3 rfl (wrap_i64 (by omega) (by omega)))⟩
            · exact ⟨⟨rfl, trivial⟩, fun ph_ _ vs w hW _ => Det.ob hW (d_move rfl)⟩
            · exact ⟨⟨rfl, trivial⟩, fun ph_ _ vs w hW _ => Det.ob hW (d_ixA0 (j := k) Try.underlying26 sz24 rfl rfl rfl (by omega))⟩
            · refine ⟨trivial, fun ph_ hp_ vs w hW _ => ?_⟩
              obtain rfl := memN_one hp_
              have hM : Mem w0 w [(b1, cl .u16 256 (pl n X), 26), (b2, cl .u16 256 (pl n X), 27), (b3, cl .u8 384 (enc 12 (pl n X)), 5), (b4, cl .u16 256 (unp 12 (enc 12 (pl n X))), 26), (b5, cl .u16 256 (comp d (pl n X)), 26), (b6, cl .u16 256 (expa d (comp d (pl n X))), 26), (b7, cl .u8 n2 (enc d (comp d (pl n X))), 5), (b8, cl .u16 256 (unp d (enc d (comp d (pl n X)))), 26)] := hW
              exact Det.ob hW (d_load1 Try.underlying24 rfl rfl (hM.cell 0 rfl (cl_get (by omega))))
            · exact ⟨trivial, fun ph_ _ vs w hW _ => Det.ob hW (d_conv Try.underlying24 Try.underlying3 rfl (wrap_i64 (by omega) (by omega)))⟩
            · exact ⟨trivial, fun ph_ _ vs w hW _ => Det.ob hW (d_sub rfl rfl (wrap_i64 (by omega) (by omega)))⟩
            · exact ⟨trivial, fun ph_ _ vs w hW _ => Ok1.obc (fun w' g => Mem.call hW g) (ok_call c19 rfl (Round_calls (by omega) (by omega) _))⟩
            · exact ⟨trivial, fun ph_ _ vs w hW _ => Det.ob hW (d_assign rfl)⟩
          · intro a w vs hW _ hF
            have hM : Mem w0 w [(b1, cl .u16 256 (pl n X), 26), (b2, cl .u16 256 (pl n X), 27), (b3, cl .u8 384 (enc 12 (pl n X)), 5), (b4, cl .u16 256 (unp 12 (enc 12 (pl n X))), 26), (b5, cl .u16 256 (comp d (pl n X)), 26), (b6, cl .u16 256 (expa d (comp d (pl n X))), 26), (b7, cl .u8 n2 (enc d (comp d (pl n X))), 5), (b8, cl .u16 256 (unp d (enc d (comp d (pl n X)))), 26)] := hW
            have hF := hF.sub (L' := [(1, (Value.int .i64 (d : Int))), (5, (Value.pointer (some ⟨b1, 0, none⟩))), (11, (Value.pointer (some ⟨b5, 0, none⟩))), (12, (Value.pointer (some ⟨b6, 0, none⟩))), (17, (Value.int .i64 (k : Int))), (18, (Value.int .i64 (((expa d (comp d (pl n X))) k - (pl n X) k) % 3329))), (118, (Value.bool (decide ((k : Int) < 256))))]) ⟨rfl, rfl, rfl, rfl, rfl, rfl, rfl, trivial⟩
            refine then_n ?_
            refine wp_seq ?_
            refine wp_region_lit ?_
            refine wl (d_move rfl) rfl hF (fun a hF => ?_)
            refine wl (d_move rfl) rfl hF (fun a hF => ?_)
            refine wl (d_sub rfl rfl (wrap_i64 (by omega) (by omega))) rfl hF (fun a hF => ?_)
            refine wl (d_min rfl rfl rfl) rfl hF (fun a hF => ?_)
            refine wl (d_assign rfl) rfl hF (fun a hF => ?_)
            refine wl_nil ?_
            have hF := hF.sub (L' := [(1, (Value.int .i64 (d : Int))), (5, (Value.pointer (some ⟨b1, 0, none⟩))), (11, (Value.pointer (some ⟨b5, 0, none⟩))), (12, (Value.pointer (some ⟨b6, 0, none⟩))), (17, (Value.int .i64 (k : Int))), (18, (Value.int .i64 (if (3329 - (((expa d (comp d (pl n X))) k - (pl n X) k) % 3329)) < (((expa d (comp d (pl n X))) k - (pl n X) k) % 3329) then (3329 - (((expa d (comp d (pl n X))) k - (pl n X) k) % 3329)) else (((expa d (comp d (pl n X))) k - (pl n X) k) % 3329)))), (118, (Value.bool (decide ((k : Int) < 256))))]) ⟨rfl, rfl, rfl, rfl, rfl, rfl, rfl, trivial⟩
            refine then_n ?_
            refine wp_seq ?_
            refine region_plan Tt mo (fun ph_ w => Mem w0 w (([[(b1, cl .u16 256 (pl n X), 26), (b2, cl .u16 256 (pl n X), 27), (b3, cl .u8 384 (enc 12 (pl n X)), 5), (b4, cl .u16 256 (unp 12 (enc 12 (pl n X))), 26), (b5, cl .u16 256 (comp d (pl n X)), 26), (b6, cl .u16 256 (expa d (comp d (pl n X))), 26), (b7, cl .u8 n2 (enc d (comp d (pl n X))), 5), (b8, cl .u16 256 (unp d (enc d (comp d (pl n X)))), 26)]] : List (List Blk)).getD ph_ [])) [] (rows := [⟨[], [(18, (Value.int .i64 (if (3329 - (((expa d (comp d (pl n X))) k - (pl n X) k) % 3329)) < (((expa d (comp d (pl n X))) k - (pl n X) k) % 3329) then (3329 - (((expa d (comp d (pl n X))) k - (pl n X) k) % 3329)) else (((expa d (comp d (pl n X))) k - (pl n X) k) % 3329))))], [0], .val (Value.int .i64 (if (3329 - (((expa d (comp d (pl n X))) k - (pl n X) k) % 3329)) < (((expa d (comp d (pl n X))) k - (pl n X) k) % 3329) then (3329 - (((expa d (comp d (pl n X))) k - (pl n X) k) % 3329)) else (((expa d (comp d (pl n X))) k - (pl n X) k) % 3329)))⟩, ⟨[], [(1, (Value.int .i64 (d : Int)))], [0], .val (Value.int .i64 (d : Int))⟩, ⟨[(1, 136)], [], [0], .val (Value.int .i64 ((d + 1 : Nat) : Int))⟩, ⟨[(2, 137)], [], [0], .val (Value.int .i64 (2 ^ (d + 1)))⟩, ⟨[(3, 138)], [], [0], .val (Value.int .i64 (3329 + (2 ^ (d + 1))))⟩, ⟨[(4, 139)], [], [0], .val (Value.int .i64 ((3329 + (2 ^ (d + 1))) - 1))⟩, ⟨[], [(1, (Value.int .i64 (d : Int)))], [0], .val (Value.int .i64 (d : Int))⟩, ⟨[(6, 141)], [], [0], .val (Value.int .i64 ((d + 1 : Nat) : Int))⟩, ⟨[(5, 140), (7, 142)], [], [0], .val (Value.int .i64 ((3329 + 2 ^ (d + 1) - 1) / 2 ^ (d + 1)))⟩, ⟨[(0, 135), (8, 143)], [], [0], .val (Value.bool false)⟩, ⟨[(9, 144)], [], [0], .val (Value.bool false)⟩, ⟨[(10, 145)], [(17, (Value.int .i64 (k : Int)))], [0], .val (Value.int .i64 (k : Int))⟩, ⟨[(11, 146), (10, 145)], [(11, (Value.pointer (some ⟨b5, 0, none⟩)))], [0], .val (Value.pointer (some ⟨b5, k, none⟩))⟩, ⟨[(12, 147), (10, 145)], [], [0], .val (Value.int .u16 ((comp d (pl n X)) k))⟩, ⟨[(13, 148), (10, 145)], [], [0], .val (Value.int .i64 ((comp d (pl n X)) k))⟩, ⟨[(10, 145)], [(1, (Value.int .i64 (d : Int)))], [0], .val (Value.int .i64 (d : Int))⟩, ⟨[(15, 150), (10, 145)], [], [0], .val (Value.int .i64 (2 ^ d))⟩, ⟨[(14, 149), (16, 151), (10, 145)], [], [0], .val (Value.bool false)⟩, ⟨[(10, 145), (17, 152)], [], [0], .val (Value.bool false)⟩]) (by kernel_rfl) hF hM.drew ?_ ?_
            · refine ⟨?_, ?_, ?_, ?_, ?_, ?_, ?_, ?_, ?_, ?_, ?_, ?_, ?_, ?_, ?_, ?_, ?_, ?_, ?_, trivial⟩
              · exact ⟨⟨rfl, trivial⟩, fun ph_ _ vs w hW _ => Det.ob hW (d_move rfl)⟩
              · exact ⟨⟨rfl, trivial⟩, fun ph_ _ vs w hW _ => Det.ob hW (d_move rfl)⟩
              · exact ⟨trivial, fun ph_ _ vs w hW _ => Det.ob hW (d_val (y := ((d + 1 : Nat) : Int)) (d_add rfl rfl (wrap_i64 (by omega) (by omega))) (by omega))⟩
              · exact ⟨trivial, fun ph_ _ vs w hW _ => Det.ob hW (d_shl rfl rfl (by omega) (shl1_i64' (by omega)))⟩
              · exact ⟨trivial, fun ph_ _ vs w hW _ => Det.ob hW (d_add rfl rfl (wrap_i64 (by omega) (by omega)))⟩
              · exact ⟨trivial, fun ph_ _ vs w hW _ => Det.ob hW (d_sub rfl rfl (wrap_i64 (by omega) (by omega)))⟩
              · exact ⟨⟨rfl, trivial⟩, fun ph_ _ vs w hW _ => Det.ob hW (d_move rfl)⟩
              · exact ⟨trivial, fun ph_ _ vs w hW _ => Det.ob hW (d_val (y := ((d + 1 : Nat) : Int)) (d_add rfl rfl (wrap_i64 (by omega) (by omega))) (by omega))⟩
              · exact ⟨trivial, fun ph_ _ vs w hW _ => Det.ob hW (d_shr rfl rfl (by omega) (shr_i64 (by omega)))⟩
              · exact ⟨trivial, fun ph_ _ vs w hW _ => Det.ob hW (d_bool (c := false) (d_gtr rfl rfl) (decide_eq_false (by have := near (d := d) (by omega) (F := pl n X) (i := k) hfk; omega)))⟩
              · exact ⟨trivial, fun ph_ _ vs w hW _ => Det.ob hW (d_move rfl)⟩
              · exact ⟨⟨rfl, trivial⟩, fun ph_ _ vs w hW _ => ⟨false, _, rfl, rfl, Det.ob hW (d_move rfl)⟩⟩
              · exact ⟨⟨rfl, trivial⟩, fun ph_ _ vs w hW _ => ⟨false, _, rfl, rfl, Det.ob hW (d_ixA0 (j := k) Try.underlying26 sz24 rfl rfl rfl (by omega))⟩⟩
              · refine ⟨trivial, fun ph_ hp_ vs w hW _ => ?_⟩
                obtain rfl := memN_one hp_
                have hM : Mem w0 w [(b1, cl .u16 256 (pl n X), 26), (b2, cl .u16 256 (pl n X), 27), (b3, cl .u8 384 (enc 12 (pl n X)), 5), (b4, cl .u16 256 (unp 12 (enc 12 (pl n X))), 26), (b5, cl .u16 256 (comp d (pl n X)), 26), (b6, cl .u16 256 (expa d (comp d (pl n X))), 26), (b7, cl .u8 n2 (enc d (comp d (pl n X))), 5), (b8, cl .u16 256 (unp d (enc d (comp d (pl n X)))), 26)] := hW
                exact ⟨false, _, rfl, rfl, Det.ob hW (d_load1 Try.underlying24 rfl rfl (hM.cell 4 rfl (cl_get (by omega))))⟩
              · exact ⟨trivial, fun ph_ _ vs w hW _ => ⟨false, _, rfl, rfl, Det.ob hW (d_conv Try.underlying24 Try.underlying3 rfl (wrap_i64 (by omega) (by omega)))⟩⟩
              · exact ⟨⟨rfl, trivial⟩, fun ph_ _ vs w hW _ => ⟨false, _, rfl, rfl, Det.ob hW (d_move rfl)⟩⟩
              · exact ⟨trivial, fun ph_ _ vs w hW _ => ⟨false, _, rfl, rfl, Det.ob hW (d_shl rfl rfl (by omega) (shl1_i64' (by omega)))⟩⟩
              · exact ⟨trivial, fun ph_ _ vs w hW _ => ⟨false, _, rfl, rfl, Det.ob hW (d_bool (c := false) (d_geq rfl rfl) (decide_eq_false (by omega)))⟩⟩
              · exact ⟨trivial, fun ph_ _ vs w hW _ => Det.ob hW (d_pick (b := false) rfl rfl)⟩
            · intro a w vs hW _ hF
              have hM : Mem w0 w [(b1, cl .u16 256 (pl n X), 26), (b2, cl .u16 256 (pl n X), 27), (b3, cl .u8 384 (enc 12 (pl n X)), 5), (b4, cl .u16 256 (unp 12 (enc 12 (pl n X))), 26), (b5, cl .u16 256 (comp d (pl n X)), 26), (b6, cl .u16 256 (expa d (comp d (pl n X))), 26), (b7, cl .u8 n2 (enc d (comp d (pl n X))), 5), (b8, cl .u16 256 (unp d (enc d (comp d (pl n X)))), 26)] := hW
              have hF := hF.sub (L' := [(1, (Value.int .i64 (d : Int))), (5, (Value.pointer (some ⟨b1, 0, none⟩))), (11, (Value.pointer (some ⟨b5, 0, none⟩))), (12, (Value.pointer (some ⟨b6, 0, none⟩))), (17, (Value.int .i64 (k : Int))), (18, (Value.int .i64 (if (3329 - (((expa d (comp d (pl n X))) k - (pl n X) k) % 3329)) < (((expa d (comp d (pl n X))) k - (pl n X) k) % 3329) then (3329 - (((expa d (comp d (pl n X))) k - (pl n X) k) % 3329)) else (((expa d (comp d (pl n X))) k - (pl n X) k) % 3329)))), (118, (Value.bool (decide ((k : Int) < 256)))), (153, (Value.bool false))]) ⟨rfl, rfl, rfl, rfl, rfl, rfl, rfl, rfl, trivial⟩
              refine then_n ?_
              refine wp_cond_false (hF.eval rfl) ?_
              refine wp_skip ?_
              refine block_n ?_
              refine then_n ?_
              refine wp_region_lit ?_
              refine wl (d_move rfl) rfl hF (fun a hF => ?_)
              refine wl (d_add rfl rfl (wrap_i64 (by omega) (by omega))) rfl hF (fun a hF => ?_)
              refine wl (d_assign rfl) rfl hF (fun a hF => ?_)
              refine wl_nil ?_
              have hF := hF.sub (L' := [(1, (Value.int .i64 (d : Int))), (5, (Value.pointer (some ⟨b1, 0, none⟩))), (11, (Value.pointer (some ⟨b5, 0, none⟩))), (12, (Value.pointer (some ⟨b6, 0, none⟩))), (17, (Value.int .i64 ((k : Int) + 1))), (18, (Value.int .i64 (if (3329 - (((expa d (comp d (pl n X))) k - (pl n X) k) % 3329)) < (((expa d (comp d (pl n X))) k - (pl n X) k) % 3329) then (3329 - (((expa d (comp d (pl n X))) k - (pl n X) k) % 3329)) else (((expa d (comp d (pl n X))) k - (pl n X) k) % 3329)))), (118, (Value.bool (decide ((k : Int) < 256)))), (153, (Value.bool false))]) ⟨rfl, rfl, rfl, rfl, rfl, rfl, rfl, rfl, trivial⟩
              refine then_n ?_
              refine ⟨_, ?_, k + 1, rfl, (by omega), hF.sub ⟨rfl, rfl, rfl, rfl, rfl, trivial⟩, ?_⟩
              · omega
              exact hM
        · have hlt := of_decide_eq_false h
          clear h
          refine wp_exit ?_
          refine then_exit ?_
          refine then_exit ?_
          refine block_exit ?_
          refine then_n ?_
          refine wp_seq ?_
          refine wp_region_lit ?_
          refine wlR (ok_call c9 rfl (awake_calls _)) rfl hF ?_
          rintro _ w a ⟨rfl, hg⟩ hF
          have hM := hM.call hg
          refine wl (d_assign rfl) rfl hF (fun a hF => ?_)
          refine wl_nil ?_
          have hF := hF.sub (L' := [(1, (Value.int .i64 (d : Int))), (4, (Value.bool true)), (5, (Value.pointer (some ⟨b1, 0, none⟩))), (11, (Value.pointer (some ⟨b5, 0, none⟩))), (12, (Value.pointer (some ⟨b6, 0, none⟩))), (17, (Value.int .i64 (k : Int))), (118, (Value.bool (decide ((k : Int) < 256))))]) ⟨rfl, rfl, rfl, rfl, rfl, rfl, rfl, trivial⟩
          refine then_n ?_
          refine wp_ret ?_
          refine body_ret hF (results1 Try.results6 (RV.tmp hF rfl)) ?_
          exact ⟨rfl, hM.below⟩
end Go.Mi.Ring
