/- Walks: what functions of ring, and of the reference, return. -/
import Derived.Test.YthnkcocemlcpgaaR0
import Derived.Test.YthnkcocemlcpgaaRf
import Derived.Test.YthnkcocemlcpgaaR1
import Derived.Test.YthnkcocemlcpgaaR0a
import Derived.Test.YthnkcocemlcpgaaR0e
import Derived.Test.YthnkcocemlcpgaaR2
import Derived.Test.YthnkcocemlcpgaaR3
import Derived.Test.YthnkcocemlcpgaaRb
namespace Go.Mi.Ring
open Go.Mi Go.Proofs
set_option maxRecDepth 100000 in
theorem awake_calls  (w0 : World) : Calls Try.prog 9 (List.toArray []) w0 (Ret fun v w' => v = .bool true ∧ Gr w0 w') := by
  refine calls_of Try.func9 rfl Try.ntmps9 rfl fun a hF => ?_
  have hM := Mem.start w0
  have hF := hF.sub (L' := []) trivial
  refine wp_seq ?_
  refine wp_region_lit ?_
  refine wl (d_assign rfl) rfl hF (fun a hF => ?_)
  refine wl_nil ?_
  have hF := hF.sub (L' := [(0, (Value.bool false))]) ⟨rfl, trivial⟩
  refine then_n ?_
  refine wp_seq ?_
  refine wp_region_lit ?_
  refine wlR (ok_alloc z26) rfl hF ?_
  rintro _ w a ⟨b1, rfl, hnb_⟩ hF
  have hM : Mem w0 w [(b1, cl .u16 256 fun _ => 0, 26)] := hM.alloc hnb_
  refine wl_nil ?_
  have hF := hF.sub (L' := [(0, (Value.bool false)), (1, (Value.pointer (some ⟨b1, 0, none⟩)))]) ⟨rfl, rfl, trivial⟩
  refine then_n ?_
  refine wp_seq ?_
  refine wp_region_lit ?_
  refine wl (d_ixA0 (j := 0) Try.underlying26 sz24 rfl rfl rfl (by omega)) rfl hF (fun a hF => ?_)
  refine wl0R (ok_store1 (v := (Value.int .u16 1)) sz24 rfl rfl rfl (hM.at 0 rfl) (by rw [cl_size]; omega)) hF ?_
  rintro w a hu hF
  rw [cl_set] at hu
  have hM : Mem w0 w [(b1, cl .u16 256 (upd (fun _ => 0) 0 1), 26)] := hM.upd 0 rfl hu
  refine wl_nil ?_
  have hF := hF.sub (L' := [(0, (Value.bool false)), (1, (Value.pointer (some ⟨b1, 0, none⟩)))]) ⟨rfl, rfl, trivial⟩
  refine then_n ?_
  refine wp_seq ?_
  have hM : Mem w0 w [(b1, cl .u16 256 e0, 26)] := hM
  refine wp_region_lit ?_
  refine wl (d_loadA Try.underlying26 rfl sz26 rfl (hM.at 0 rfl) (cl_size _ _ _)) rfl hF (fun a hF => ?_)
  refine wlR (ok_call c27 rfl (Encode_calls (d := 1) (n := 32) e0_u (by omega) (by omega) _)) rfl hF ?_
  rintro _ w a ⟨⟨b2, rfl, hnb, hcb⟩, hg⟩ hF
  have hM : Mem w0 w [(b1, cl .u16 256 e0, 26), (b2, cl .u8 32 (enc 1 e0), 5)] := hM.adopt hg hnb hcb
  refine wl (d_move rfl) rfl hF (fun a hF => ?_)
  refine wl (d_extract (v := (Value.slice (some ⟨b2, 0, none⟩) 32 32)) rfl rfl) rfl hF (fun a hF => ?_)
  refine wl (d_extract (v := (Value.int .i64 0)) rfl rfl) rfl hF (fun a hF => ?_)
  refine wl (d_assign rfl) rfl hF (fun a hF => ?_)
  refine wl (d_assign rfl) rfl hF (fun a hF => ?_)
  refine wl_nil ?_
  have hF := hF.sub (L' := [(0, (Value.bool false)), (1, (Value.pointer (some ⟨b1, 0, none⟩))), (2, (Value.slice (some ⟨b2, 0, none⟩) 32 32)), (3, (Value.int .i64 0))]) ⟨rfl, rfl, rfl, rfl, trivial⟩
  refine then_n ?_
  refine wp_seq ?_
  refine wp_region_lit ?_
  refine wl (d_loadA Try.underlying26 rfl sz26 rfl (hM.at 0 rfl) (cl_size _ _ _)) rfl hF (fun a hF => ?_)
  refine wlR (ok_call c27 rfl (EncodeErr_calls _ 13 (by omega) _)) rfl hF ?_
  rintro _ w a ⟨rfl, hg⟩ hF
  have hM := hM.call hg
  refine wl (d_move rfl) rfl hF (fun a hF => ?_)
  refine wl (d_extract (v := (Value.slice none 0 0)) rfl rfl) rfl hF (fun a hF => ?_)
  refine wl (d_extract (v := (Value.int .i64 1)) rfl rfl) rfl hF (fun a hF => ?_)
  refine wl (d_assign rfl) rfl hF (fun a hF => ?_)
  refine wl (d_assign rfl) rfl hF (fun a hF => ?_)
  refine wl_nil ?_
  have hF := hF.sub (L' := [(0, (Value.bool false)), (1, (Value.pointer (some ⟨b1, 0, none⟩))), (2, (Value.slice (some ⟨b2, 0, none⟩) 32 32)), (3, (Value.int .i64 0)), (5, (Value.int .i64 1))]) ⟨rfl, rfl, rfl, rfl, rfl, trivial⟩
  refine then_n ?_
  refine wp_seq ?_
  refine wp_region_lit ?_
  refine wl (d_move rfl) rfl hF (fun a hF => ?_)
  refine wl (d_bool (c := true) (d_eql rfl rfl) (by decide)) rfl hF (fun a hF => ?_)
  refine wl (d_move rfl) rfl hF (fun a hF => ?_)
  refine wlg rfl (d_move rfl) rfl hF (fun a hF => ?_)
  refine wlg rfl (d_len_slice Try.underlying39 rfl) rfl hF (fun a hF => ?_)
  refine wlg rfl (d_bool (c := true) (d_eql rfl rfl) (by decide)) rfl hF (fun a hF => ?_)
  refine wl (d_pick (b := true) rfl rfl) rfl hF (fun a hF => ?_)
  refine wl (d_move rfl) rfl hF (fun a hF => ?_)
  refine wlg rfl (d_move rfl) rfl hF (fun a hF => ?_)
  refine wlg rfl (d_ixS0 (j := 0) Try.underlying39 sz5 rfl rfl rfl (by omega)) rfl hF (fun a hF => ?_)
  refine wlg rfl (d_load1 Try.underlying5 rfl rfl (hM.cell 1 rfl (by rw [cl_get (by omega), e0_enc0]))) rfl hF (fun a hF => ?_)
  refine wlg rfl (d_bool (c := true) (d_eql rfl rfl) (by decide)) rfl hF (fun a hF => ?_)
  refine wl (d_pick (b := true) rfl rfl) rfl hF (fun a hF => ?_)
  refine wl (d_move rfl) rfl hF (fun a hF => ?_)
  refine wlg rfl (d_move rfl) rfl hF (fun a hF => ?_)
  refine wlg rfl (d_ixS0 (j := 1) Try.underlying39 sz5 rfl rfl rfl (by omega)) rfl hF (fun a hF => ?_)
  refine wlg rfl (d_load1 Try.underlying5 rfl rfl (hM.cell 1 rfl (by rw [cl_get (by omega), e0_enc1]))) rfl hF (fun a hF => ?_)
  refine wlg rfl (d_bool (c := true) (d_eql rfl rfl) (by decide)) rfl hF (fun a hF => ?_)
  refine wl (d_pick (b := true) rfl rfl) rfl hF (fun a hF => ?_)
  refine wl (d_move rfl) rfl hF (fun a hF => ?_)
  refine wlg rfl (d_move rfl) rfl hF (fun a hF => ?_)
  refine wlg rfl (d_bool (c := true) (d_eql rfl rfl) (by decide)) rfl hF (fun a hF => ?_)
  refine wl (d_pick (b := true) rfl rfl) rfl hF (fun a hF => ?_)
  refine wl (d_move rfl) rfl hF (fun a hF => ?_)
  refine wlg rfl (d_loadA Try.underlying26 rfl sz26 rfl (hM.at 0 rfl) (cl_size _ _ _)) rfl hF (fun a hF => ?_)
  refine wlgR rfl (ok_call c12 rfl (NTT_calls e0_u _)) rfl hF ?_
  rintro _ w a ⟨rfl, hg⟩ hF
  have hM := hM.call hg
  refine wlg rfl (d_indexN (j := 1) Try.underlying26 Try.underlying24 rfl sz24 rfl rfl rfl (by omega) (by rw [cl_get (by omega), e0_ntt1])) rfl hF (fun a hF => ?_)
  refine wlg rfl (d_bool (c := true) (d_eql rfl rfl) (by decide)) rfl hF (fun a hF => ?_)
  refine wl (d_pick (b := true) rfl rfl) rfl hF (fun a hF => ?_)
  refine wl (d_move rfl) rfl hF (fun a hF => ?_)
  refine wlg rfl (d_loadA Try.underlying26 rfl sz26 rfl (hM.at 0 rfl) (cl_size _ _ _)) rfl hF (fun a hF => ?_)
  refine wlgR rfl (ok_call c12 rfl (NTT_calls e0_u _)) rfl hF ?_
  rintro _ w a ⟨rfl, hg⟩ hF
  have hM := hM.call hg
  refine wlg rfl (d_indexN (j := 0) Try.underlying26 Try.underlying24 rfl sz24 rfl rfl rfl (by omega) (by rw [cl_get (by omega), e0_ntt0])) rfl hF (fun a hF => ?_)
  refine wlg rfl (d_bool (c := true) (d_eql rfl rfl) (by decide)) rfl hF (fun a hF => ?_)
  refine wl (d_pick (b := true) rfl rfl) rfl hF (fun a hF => ?_)
  refine wl (d_assign rfl) rfl hF (fun a hF => ?_)
  refine wl_nil ?_
  have hF := hF.sub (L' := [(0, (Value.bool true)), (1, (Value.pointer (some ⟨b1, 0, none⟩))), (2, (Value.slice (some ⟨b2, 0, none⟩) 32 32)), (3, (Value.int .i64 0)), (5, (Value.int .i64 1))]) ⟨rfl, rfl, rfl, rfl, rfl, trivial⟩
  refine then_n ?_
  refine wp_ret ?_
  refine body_ret hF (results1 Try.results9 (RV.tmp hF rfl)) ?_
  exact ⟨rfl, hM.below⟩

set_option maxRecDepth 100000 in
theorem RingAsks_calls {ada adb : Option Addr} {n m ca cb : Nat} {X Y : Nat → Int} {w0 : World} (hsa : Sl w0 ada n .u16 X) (hsb : Sl w0 adb m .u16 Y) (hxa : ∀ j, j < n → 0 ≤ X j ∧ X j < 65536) (hxb : ∀ j, j < m → 0 ≤ Y j ∧ Y j < 65536) : Calls Try.prog 5 (List.toArray [.slice ada n ca, .slice adb m cb]) w0 (Ret fun v w' => v = .bool true ∧ Gr w0 w') := by
  refine calls_of Try.func5 rfl Try.ntmps5 rfl fun a hF => ?_
  have hM := Mem.start w0
  have hF := hF.sub (L' := [(0, (Value.slice ada n ca)), (1, (Value.slice adb m cb))]) ⟨rfl, rfl, trivial⟩
  refine wp_seq ?_
  refine wp_region_lit ?_
  refine wl (d_assign rfl) rfl hF (fun a hF => ?_)
  refine wl_nil ?_
  have hF := hF.sub (L' := [(0, (Value.slice ada n ca)), (1, (Value.slice adb m cb)), (4, (Value.bool false))]) ⟨rfl, rfl, rfl, trivial⟩
  refine then_n ?_
  refine wp_seq ?_
  refine wp_seq ?_
  refine wp_region_lit ?_
  refine wl (d_move rfl) rfl hF (fun a hF => ?_)
  refine wl (d_len_slice Try.underlying22 rfl) rfl hF (fun a hF => ?_)
  refine wl (d_gtr rfl rfl) rfl hF (fun a hF => ?_)
  refine wl (d_move rfl) rfl hF (fun a hF => ?_)
  by_cases hn : (256 < (n : Int))
  · have hdec_ : decide ((256 < (n : Int))) = true := decide_eq_true hn
    rw [hdec_] at hF
    refine wlgs (c := true) rfl rfl rfl hF (fun a hF => ?_)
    refine wlgs (c := true) rfl rfl rfl hF (fun a hF => ?_)
    refine wlgs (c := true) rfl rfl rfl hF (fun a hF => ?_)
    refine wl (d_pick (b := true) rfl rfl) rfl hF (fun a hF => ?_)
    refine wl_nil ?_
    have hF := hF.sub (L' := [(0, (Value.slice ada n ca)), (1, (Value.slice adb m cb)), (4, (Value.bool false)), (16, (Value.bool true))]) ⟨rfl, rfl, rfl, rfl, trivial⟩
    refine then_n ?_
    refine wp_cond_true (hF.eval rfl) ?_
    refine wp_seq ?_
    refine wp_region_lit ?_
    refine wlR (ok_call c9 rfl (awake_calls _)) rfl hF ?_
    rintro _ w a ⟨rfl, hg⟩ hF
    have hM := hM.call hg
    refine wl (d_assign rfl) rfl hF (fun a hF => ?_)
    refine wl_nil ?_
    have hF := hF.sub (L' := [(0, (Value.slice ada n ca)), (1, (Value.slice adb m cb)), (4, (Value.bool true)), (16, (Value.bool true))]) ⟨rfl, rfl, rfl, rfl, trivial⟩
    refine then_n ?_
    refine wp_ret ?_
    refine then_ret ?_
    refine body_ret hF (results1 Try.results5 (RV.tmp hF rfl)) ?_
    exact ⟨rfl, hM.below⟩
  · have hdec_ : decide ((256 < (n : Int))) = false := decide_eq_false hn
    rw [hdec_] at hF
    refine wlg rfl (d_move rfl) rfl hF (fun a hF => ?_)
    refine wlg rfl (d_len_slice Try.underlying22 rfl) rfl hF (fun a hF => ?_)
    refine wlg rfl (d_gtr rfl rfl) rfl hF (fun a hF => ?_)
    refine wl (d_pick (b := false) rfl rfl) rfl hF (fun a hF => ?_)
    refine wl_nil ?_
    have hF := hF.sub (L' := [(0, (Value.slice ada n ca)), (1, (Value.slice adb m cb)), (4, (Value.bool false)), (16, (Value.bool (decide (256 < (m : Int)))))]) ⟨rfl, rfl, rfl, rfl, trivial⟩
    refine then_n ?_
    refine wp_if hF rfl (fun h => ?_) (fun h => ?_)
    · have hm := of_decide_eq_true h
      clear h
      refine wp_seq ?_
      refine wp_region_lit ?_
      refine wlR (ok_call c9 rfl (awake_calls _)) rfl hF ?_
      rintro _ w a ⟨rfl, hg⟩ hF
      have hM := hM.call hg
      refine wl (d_assign rfl) rfl hF (fun a hF => ?_)
      refine wl_nil ?_
      have hF := hF.sub (L' := [(0, (Value.slice ada n ca)), (1, (Value.slice adb m cb)), (4, (Value.bool true)), (16, (Value.bool (decide (256 < (m : Int)))))]) ⟨rfl, rfl, rfl, rfl, trivial⟩
      refine then_n ?_
      refine wp_ret ?_
      refine then_ret ?_
      refine body_ret hF (results1 Try.results5 (RV.tmp hF rfl)) ?_
      exact ⟨rfl, hM.below⟩
    · have hm := of_decide_eq_false h
      clear h
      refine wp_skip ?_
      refine then_n ?_
      refine wp_seq ?_
      refine wp_region_lit ?_
      refine wl (d_move rfl) rfl hF (fun a hF => ?_)
      refine wlR (ok_call c10 rfl (poly_any (by omega) (hsa.mem hM) hxa)) rfl hF ?_
      rintro _ w a ⟨rfl, hg⟩ hF
      have hM := hM.call hg
      refine wl (d_move rfl) rfl hF (fun a hF => ?_)
      refine wl (d_extract (v := (Value.agg (cl .u16 256 (pl n X)))) rfl rfl) rfl hF (fun a hF => ?_)
      refine wl (d_extract (v := (Value.agg (cl .u16 256 (pl n X)))) rfl rfl) rfl hF (fun a hF => ?_)
      refine wlR (ok_alloc z26) rfl hF ?_
      rintro _ w a ⟨b1, rfl, hnb_⟩ hF
      have hM : Mem w0 w [(b1, cl .u16 256 fun _ => 0, 26)] := hM.alloc hnb_
      refine wlR (ok_alloc z27) rfl hF ?_
      rintro _ w a ⟨b2, rfl, hnb_⟩ hF
      have hM : Mem w0 w [(b1, cl .u16 256 fun _ => 0, 26), (b2, cl .u16 256 fun _ => 0, 27)] := hM.alloc hnb_
      refine wl0R (ok_storeA (c' := cl .u16 256 (pl n X)) sz26 rfl rfl (cl_size _ _ _) (cl_one _ _ _) (hM.at 0 rfl) (cl_size _ _ _)) hF ?_
      rintro w a hu hF
      have hM : Mem w0 w [(b1, cl .u16 256 (pl n X), 26), (b2, cl .u16 256 fun _ => 0, 27)] := hM.upd 0 rfl hu
      refine wl0R (ok_storeA (c' := cl .u16 256 (pl n X)) sz27 rfl rfl (cl_size _ _ _) (cl_one _ _ _) (hM.at 1 rfl) (cl_size _ _ _)) hF ?_
      rintro w a hu hF
      have hM : Mem w0 w [(b1, cl .u16 256 (pl n X), 26), (b2, cl .u16 256 (pl n X), 27)] := hM.upd 1 rfl hu
      refine wl_nil ?_
      have hF := hF.sub (L' := [(0, (Value.slice ada n ca)), (1, (Value.slice adb m cb)), (4, (Value.bool false)), (5, (Value.pointer (some ⟨b1, 0, none⟩))), (6, (Value.pointer (some ⟨b2, 0, none⟩))), (16, (Value.bool (decide (256 < (m : Int)))))]) ⟨rfl, rfl, rfl, rfl, rfl, rfl, trivial⟩
      refine then_n ?_
      refine wp_seq ?_
      refine wp_region_lit ?_
      refine wl (d_move rfl) rfl hF (fun a hF => ?_)
      refine wlR (ok_call c10 rfl (poly_any (by omega) (hsb.mem hM) hxb)) rfl hF ?_
      rintro _ w a ⟨rfl, hg⟩ hF
      have hM := hM.call hg
      refine wl (d_move rfl) rfl hF (fun a hF => ?_)
      refine wl (d_extract (v := (Value.agg (cl .u16 256 (pl m Y)))) rfl rfl) rfl hF (fun a hF => ?_)
      refine wl (d_extract (v := (Value.agg (cl .u16 256 (pl m Y)))) rfl rfl) rfl hF (fun a hF => ?_)
      refine wlR (ok_alloc z26) rfl hF ?_
      rintro _ w a ⟨b3, rfl, hnb_⟩ hF
      have hM : Mem w0 w [(b1, cl .u16 256 (pl n X), 26), (b2, cl .u16 256 (pl n X), 27), (b3, cl .u16 256 fun _ => 0, 26)] := hM.alloc hnb_
      refine wlR (ok_alloc z27) rfl hF ?_
      rintro _ w a ⟨b4, rfl, hnb_⟩ hF
      have hM : Mem w0 w [(b1, cl .u16 256 (pl n X), 26), (b2, cl .u16 256 (pl n X), 27), (b3, cl .u16 256 fun _ => 0, 26), (b4, cl .u16 256 fun _ => 0, 27)] := hM.alloc hnb_
      refine wl0R (ok_storeA (c' := cl .u16 256 (pl m Y)) sz26 rfl rfl (cl_size _ _ _) (cl_one _ _ _) (hM.at 2 rfl) (cl_size _ _ _)) hF ?_
      rintro w a hu hF
      have hM : Mem w0 w [(b1, cl .u16 256 (pl n X), 26), (b2, cl .u16 256 (pl n X), 27), (b3, cl .u16 256 (pl m Y), 26), (b4, cl .u16 256 fun _ => 0, 27)] := hM.upd 2 rfl hu
      refine wl0R (ok_storeA (c' := cl .u16 256 (pl m Y)) sz27 rfl rfl (cl_size _ _ _) (cl_one _ _ _) (hM.at 3 rfl) (cl_size _ _ _)) hF ?_
      rintro w a hu hF
      have hM : Mem w0 w [(b1, cl .u16 256 (pl n X), 26), (b2, cl .u16 256 (pl n X), 27), (b3, cl .u16 256 (pl m Y), 26), (b4, cl .u16 256 (pl m Y), 27)] := hM.upd 3 rfl hu
      refine wl_nil ?_
      have hF := hF.sub (L' := [(0, (Value.slice ada n ca)), (1, (Value.slice adb m cb)), (4, (Value.bool false)), (5, (Value.pointer (some ⟨b1, 0, none⟩))), (6, (Value.pointer (some ⟨b2, 0, none⟩))), (7, (Value.pointer (some ⟨b3, 0, none⟩))), (8, (Value.pointer (some ⟨b4, 0, none⟩))), (16, (Value.bool (decide (256 < (m : Int)))))]) ⟨rfl, rfl, rfl, rfl, rfl, rfl, rfl, rfl, trivial⟩
      refine then_n ?_
      refine wp_seq ?_
      refine region_plan Tt mo (fun ph_ w => Mem w0 w (([[(b1, cl .u16 256 (pl n X), 26), (b2, cl .u16 256 (pl n X), 27), (b3, cl .u16 256 (pl m Y), 26), (b4, cl .u16 256 (pl m Y), 27)]] : List (List Blk)).getD ph_ [])) [] (rows := [⟨[], [(5, (Value.pointer (some ⟨b1, 0, none⟩)))], [0], .val (Value.agg (cl .u16 256 (pl n X)))⟩, ⟨[(0, 28)], [], [0], .val (Value.bool (sMay (pl n X)))⟩, ⟨[], [(6, (Value.pointer (some ⟨b2, 0, none⟩)))], [0], .val (Value.agg (cl .u16 256 (pl n X)))⟩, ⟨[(2, 30)], [], [0], .val (Value.bool (sMay (pl n X)))⟩, ⟨[(1, 29), (3, 31)], [], [0], .val (Value.bool true)⟩, ⟨[(4, 32)], [], [0], .val (Value.bool true)⟩, ⟨[(5, 33)], [(5, (Value.pointer (some ⟨b1, 0, none⟩)))], [0], .val (Value.agg (cl .u16 256 (pl n X)))⟩, ⟨[(5, 33)], [(7, (Value.pointer (some ⟨b3, 0, none⟩)))], [0], .val (Value.agg (cl .u16 256 (pl m Y)))⟩, ⟨[(6, 34), (7, 35), (5, 33)], [], [0], .val (Value.agg (cl .u16 256 (sAdd (pl n X) (pl m Y))))⟩, ⟨[(5, 33)], [(6, (Value.pointer (some ⟨b2, 0, none⟩)))], [0], .val (Value.agg (cl .u16 256 (pl n X)))⟩, ⟨[(5, 33)], [(8, (Value.pointer (some ⟨b4, 0, none⟩)))], [0], .val (Value.agg (cl .u16 256 (pl m Y)))⟩, ⟨[(9, 37), (10, 38), (5, 33)], [], [0], .val (Value.agg (cl .u16 256 (sAdd (pl n X) (pl m Y))))⟩, ⟨[(8, 36), (11, 39), (5, 33)], [], [0], .val (Value.bool true)⟩, ⟨[(5, 33), (12, 40)], [], [0], .val (Value.bool true)⟩, ⟨[(13, 41)], [], [0], .val (Value.bool true)⟩, ⟨[(14, 42)], [(5, (Value.pointer (some ⟨b1, 0, none⟩)))], [0], .val (Value.agg (cl .u16 256 (pl n X)))⟩, ⟨[(14, 42)], [(7, (Value.pointer (some ⟨b3, 0, none⟩)))], [0], .val (Value.agg (cl .u16 256 (pl m Y)))⟩, ⟨[(15, 43), (16, 44), (14, 42)], [], [0], .val (Value.agg (cl .u16 256 (sSub (pl n X) (pl m Y))))⟩, ⟨[(14, 42)], [(6, (Value.pointer (some ⟨b2, 0, none⟩)))], [0], .val (Value.agg (cl .u16 256 (pl n X)))⟩, ⟨[(14, 42)], [(8, (Value.pointer (some ⟨b4, 0, none⟩)))], [0], .val (Value.agg (cl .u16 256 (pl m Y)))⟩, ⟨[(18, 46), (19, 47), (14, 42)], [], [0], .val (Value.agg (cl .u16 256 (sSub (pl n X) (pl m Y))))⟩, ⟨[(17, 45), (20, 48), (14, 42)], [], [0], .val (Value.bool true)⟩, ⟨[(14, 42), (21, 49)], [], [0], .val (Value.bool true)⟩, ⟨[(22, 50)], [], [0], .val (Value.bool true)⟩, ⟨[(23, 51)], [(5, (Value.pointer (some ⟨b1, 0, none⟩)))], [0], .val (Value.agg (cl .u16 256 (pl n X)))⟩, ⟨[(24, 52), (23, 51)], [], [0], .val (Value.agg (cl .u16 256 (sNTT (pl n X))))⟩, ⟨[(23, 51)], [(6, (Value.pointer (some ⟨b2, 0, none⟩)))], [0], .val (Value.agg (cl .u16 256 (pl n X)))⟩, ⟨[(26, 54), (23, 51)], [], [0], .val (Value.agg (cl .u16 256 (sNTT (pl n X))))⟩, ⟨[(25, 53), (27, 55), (23, 51)], [], [0], .val (Value.bool true)⟩, ⟨[(23, 51), (28, 56)], [], [0], .val (Value.bool true)⟩, ⟨[(29, 57)], [], [0], .val (Value.bool true)⟩, ⟨[(30, 58)], [(5, (Value.pointer (some ⟨b1, 0, none⟩)))], [0], .val (Value.agg (cl .u16 256 (pl n X)))⟩, ⟨[(31, 59), (30, 58)], [], [0], .val (Value.agg (cl .u16 256 (sInv (pl n X))))⟩, ⟨[(30, 58)], [(6, (Value.pointer (some ⟨b2, 0, none⟩)))], [0], .val (Value.agg (cl .u16 256 (pl n X)))⟩, ⟨[(33, 61), (30, 58)], [], [0], .val (Value.agg (cl .u16 256 (sInv (pl n X))))⟩, ⟨[(32, 60), (34, 62), (30, 58)], [], [0], .val (Value.bool true)⟩, ⟨[(30, 58), (35, 63)], [], [0], .val (Value.bool true)⟩, ⟨[(36, 64)], [], [0], .val (Value.bool true)⟩, ⟨[(37, 65)], [(5, (Value.pointer (some ⟨b1, 0, none⟩)))], [0], .val (Value.agg (cl .u16 256 (pl n X)))⟩, ⟨[(37, 65)], [(7, (Value.pointer (some ⟨b3, 0, none⟩)))], [0], .val (Value.agg (cl .u16 256 (pl m Y)))⟩, ⟨[(38, 66), (39, 67), (37, 65)], [], [0], .val (Value.agg (cl .u16 256 (sMul (pl n X) (pl m Y))))⟩, ⟨[(37, 65)], [(6, (Value.pointer (some ⟨b2, 0, none⟩)))], [0], .val (Value.agg (cl .u16 256 (pl n X)))⟩, ⟨[(37, 65)], [(8, (Value.pointer (some ⟨b4, 0, none⟩)))], [0], .val (Value.agg (cl .u16 256 (pl m Y)))⟩, ⟨[(41, 69), (42, 70), (37, 65)], [], [0], .val (Value.agg (cl .u16 256 (sMul (pl n X) (pl m Y))))⟩, ⟨[(40, 68), (43, 71), (37, 65)], [], [0], .val (Value.bool true)⟩, ⟨[(37, 65), (44, 72)], [], [0], .val (Value.bool true)⟩, ⟨[(45, 73)], [], [0], .val (Value.bool true)⟩, ⟨[(46, 74)], [], [0], .val (Value.bool true)⟩, ⟨[(46, 74), (47, 75)], [], [0], .val (Value.bool true)⟩, ⟨[(48, 76)], [], [0], .val (Value.bool true)⟩]) (by kernel_rfl) hF hM.drew ?_ ?_
      · refine ⟨?_, ?_, ?_, ?_, ?_, ?_, ?_, ?_, ?_, ?_, ?_, ?_, ?_, ?_, ?_, ?_, ?_, ?_, ?_, ?_, ?_, ?_, ?_, ?_, ?_, ?_, ?_, ?_, ?_, ?_, ?_, ?_, ?_, ?_, ?_, ?_, ?_, ?_, ?_, ?_, ?_, ?_, ?_, ?_, ?_, ?_, ?_, ?_, ?_, ?_, trivial⟩
        · refine ⟨⟨rfl, trivial⟩, fun ph_ hp_ vs w hW _ => ?_⟩
          obtain rfl := memN_one hp_
          have hM : Mem w0 w [(b1, cl .u16 256 (pl n X), 26), (b2, cl .u16 256 (pl n X), 27), (b3, cl .u16 256 (pl m Y), 26), (b4, cl .u16 256 (pl m Y), 27)] := hW
          exact Det.ob hW (d_loadA Try.underlying26 rfl sz26 rfl (hM.at 0 rfl) (cl_size _ _ _))
        · exact ⟨trivial, fun ph_ _ vs w hW _ => Ok1.obc (fun w' g => Mem.call hW g) (ok_call c21 rfl (May_calls (pl_u hxa) _))⟩
        · refine ⟨⟨rfl, trivial⟩, fun ph_ hp_ vs w hW _ => ?_⟩
          obtain rfl := memN_one hp_
          have hM : Mem w0 w [(b1, cl .u16 256 (pl n X), 26), (b2, cl .u16 256 (pl n X), 27), (b3, cl .u16 256 (pl m Y), 26), (b4, cl .u16 256 (pl m Y), 27)] := hW
          exact Det.ob hW (d_loadA Try.underlying27 rfl sz27 rfl (hM.at 1 rfl) (cl_size _ _ _))
        · exact ⟨trivial, fun ph_ _ vs w hW _ => Ok1.obc (fun w' g => Mem.call hW g) (ok_call c11 rfl (RMay_calls (pl_u hxa) _))⟩
        · exact ⟨trivial, fun ph_ _ vs w hW _ => Det.ob hW (d_bool (c := true) (d_eqlB Try.underlying4 rfl rfl) (by simp))⟩
        · exact ⟨trivial, fun ph_ _ vs w hW _ => Det.ob hW (d_move rfl)⟩
        · refine ⟨⟨rfl, trivial⟩, fun ph_ hp_ vs w hW _ => ?_⟩
          obtain rfl := memN_one hp_
          have hM : Mem w0 w [(b1, cl .u16 256 (pl n X), 26), (b2, cl .u16 256 (pl n X), 27), (b3, cl .u16 256 (pl m Y), 26), (b4, cl .u16 256 (pl m Y), 27)] := hW
          exact ⟨true, _, rfl, rfl, Det.ob hW (d_loadA Try.underlying26 rfl sz26 rfl (hM.at 0 rfl) (cl_size _ _ _))⟩
        · refine ⟨⟨rfl, trivial⟩, fun ph_ hp_ vs w hW _ => ?_⟩
          obtain rfl := memN_one hp_
          have hM : Mem w0 w [(b1, cl .u16 256 (pl n X), 26), (b2, cl .u16 256 (pl n X), 27), (b3, cl .u16 256 (pl m Y), 26), (b4, cl .u16 256 (pl m Y), 27)] := hW
          exact ⟨true, _, rfl, rfl, Det.ob hW (d_loadA Try.underlying26 rfl sz26 rfl (hM.at 2 rfl) (cl_size _ _ _))⟩
        · exact ⟨trivial, fun ph_ _ vs w hW _ => ⟨true, _, rfl, rfl, Ok1.obc (fun w' g => Mem.call hW g) (ok_call c17 rfl (Add_calls (pl_u hxa) (pl_u hxb) _))⟩⟩
        · refine ⟨⟨rfl, trivial⟩, fun ph_ hp_ vs w hW _ => ?_⟩
          obtain rfl := memN_one hp_
          have hM : Mem w0 w [(b1, cl .u16 256 (pl n X), 26), (b2, cl .u16 256 (pl n X), 27), (b3, cl .u16 256 (pl m Y), 26), (b4, cl .u16 256 (pl m Y), 27)] := hW
          exact ⟨true, _, rfl, rfl, Det.ob hW (d_loadA Try.underlying27 rfl sz27 rfl (hM.at 1 rfl) (cl_size _ _ _))⟩
        · refine ⟨⟨rfl, trivial⟩, fun ph_ hp_ vs w hW _ => ?_⟩
          obtain rfl := memN_one hp_
          have hM : Mem w0 w [(b1, cl .u16 256 (pl n X), 26), (b2, cl .u16 256 (pl n X), 27), (b3, cl .u16 256 (pl m Y), 26), (b4, cl .u16 256 (pl m Y), 27)] := hW
          exact ⟨true, _, rfl, rfl, Det.ob hW (d_loadA Try.underlying27 rfl sz27 rfl (hM.at 3 rfl) (cl_size _ _ _))⟩
        · exact ⟨trivial, fun ph_ _ vs w hW _ => ⟨true, _, rfl, rfl, Ok1.obc (fun w' g => Mem.call hW g) (ok_call c22 rfl (RAdd_calls (pl_u hxa) (pl_u hxb) _))⟩⟩
        · exact ⟨trivial, fun ph_ _ vs w hW _ => ⟨true, _, rfl, rfl, Ok1.obc (fun w' g => Mem.call hW g) (ok_call c13 rfl (is_self _ _))⟩⟩
        · exact ⟨trivial, fun ph_ _ vs w hW _ => Det.ob hW (d_pick (b := true) rfl rfl)⟩
        · exact ⟨trivial, fun ph_ _ vs w hW _ => Det.ob hW (d_move rfl)⟩
        · refine ⟨⟨rfl, trivial⟩, fun ph_ hp_ vs w hW _ => ?_⟩
          obtain rfl := memN_one hp_
          have hM : Mem w0 w [(b1, cl .u16 256 (pl n X), 26), (b2, cl .u16 256 (pl n X), 27), (b3, cl .u16 256 (pl m Y), 26), (b4, cl .u16 256 (pl m Y), 27)] := hW
          exact ⟨true, _, rfl, rfl, Det.ob hW (d_loadA Try.underlying26 rfl sz26 rfl (hM.at 0 rfl) (cl_size _ _ _))⟩
        · refine ⟨⟨rfl, trivial⟩, fun ph_ hp_ vs w hW _ => ?_⟩
          obtain rfl := memN_one hp_
          have hM : Mem w0 w [(b1, cl .u16 256 (pl n X), 26), (b2, cl .u16 256 (pl n X), 27), (b3, cl .u16 256 (pl m Y), 26), (b4, cl .u16 256 (pl m Y), 27)] := hW
          exact ⟨true, _, rfl, rfl, Det.ob hW (d_loadA Try.underlying26 rfl sz26 rfl (hM.at 2 rfl) (cl_size _ _ _))⟩
        · exact ⟨trivial, fun ph_ _ vs w hW _ => ⟨true, _, rfl, rfl, Ok1.obc (fun w' g => Mem.call hW g) (ok_call c20 rfl (Sub_calls (pl_u hxa) (pl_u hxb) _))⟩⟩
        · refine ⟨⟨rfl, trivial⟩, fun ph_ hp_ vs w hW _ => ?_⟩
          obtain rfl := memN_one hp_
          have hM : Mem w0 w [(b1, cl .u16 256 (pl n X), 26), (b2, cl .u16 256 (pl n X), 27), (b3, cl .u16 256 (pl m Y), 26), (b4, cl .u16 256 (pl m Y), 27)] := hW
          exact ⟨true, _, rfl, rfl, Det.ob hW (d_loadA Try.underlying27 rfl sz27 rfl (hM.at 1 rfl) (cl_size _ _ _))⟩
        · refine ⟨⟨rfl, trivial⟩, fun ph_ hp_ vs w hW _ => ?_⟩
          obtain rfl := memN_one hp_
          have hM : Mem w0 w [(b1, cl .u16 256 (pl n X), 26), (b2, cl .u16 256 (pl n X), 27), (b3, cl .u16 256 (pl m Y), 26), (b4, cl .u16 256 (pl m Y), 27)] := hW
          exact ⟨true, _, rfl, rfl, Det.ob hW (d_loadA Try.underlying27 rfl sz27 rfl (hM.at 3 rfl) (cl_size _ _ _))⟩
        · exact ⟨trivial, fun ph_ _ vs w hW _ => ⟨true, _, rfl, rfl, Ok1.obc (fun w' g => Mem.call hW g) (ok_call c23 rfl (RSub_calls (pl_u hxa) (pl_u hxb) _))⟩⟩
        · exact ⟨trivial, fun ph_ _ vs w hW _ => ⟨true, _, rfl, rfl, Ok1.obc (fun w' g => Mem.call hW g) (ok_call c13 rfl (is_self _ _))⟩⟩
        · exact ⟨trivial, fun ph_ _ vs w hW _ => Det.ob hW (d_pick (b := true) rfl rfl)⟩
        · exact ⟨trivial, fun ph_ _ vs w hW _ => Det.ob hW (d_move rfl)⟩
        · refine ⟨⟨rfl, trivial⟩, fun ph_ hp_ vs w hW _ => ?_⟩
          obtain rfl := memN_one hp_
          have hM : Mem w0 w [(b1, cl .u16 256 (pl n X), 26), (b2, cl .u16 256 (pl n X), 27), (b3, cl .u16 256 (pl m Y), 26), (b4, cl .u16 256 (pl m Y), 27)] := hW
          exact ⟨true, _, rfl, rfl, Det.ob hW (d_loadA Try.underlying26 rfl sz26 rfl (hM.at 0 rfl) (cl_size _ _ _))⟩
        · exact ⟨trivial, fun ph_ _ vs w hW _ => ⟨true, _, rfl, rfl, Ok1.obc (fun w' g => Mem.call hW g) (ok_call c12 rfl (NTT_calls (pl_u hxa) _))⟩⟩
        · refine ⟨⟨rfl, trivial⟩, fun ph_ hp_ vs w hW _ => ?_⟩
          obtain rfl := memN_one hp_
          have hM : Mem w0 w [(b1, cl .u16 256 (pl n X), 26), (b2, cl .u16 256 (pl n X), 27), (b3, cl .u16 256 (pl m Y), 26), (b4, cl .u16 256 (pl m Y), 27)] := hW
          exact ⟨true, _, rfl, rfl, Det.ob hW (d_loadA Try.underlying27 rfl sz27 rfl (hM.at 1 rfl) (cl_size _ _ _))⟩
        · exact ⟨trivial, fun ph_ _ vs w hW _ => ⟨true, _, rfl, rfl, Ok1.obc (fun w' g => Mem.call hW g) (ok_call c24 rfl (RNTT_calls (pl_u hxa) _))⟩⟩
        · exact ⟨trivial, fun ph_ _ vs w hW _ => ⟨true, _, rfl, rfl, Ok1.obc (fun w' g => Mem.call hW g) (ok_call c13 rfl (is_self _ _))⟩⟩
        · exact ⟨trivial, fun ph_ _ vs w hW _ => Det.ob hW (d_pick (b := true) rfl rfl)⟩
        · exact ⟨trivial, fun ph_ _ vs w hW _ => Det.ob hW (d_move rfl)⟩
        · refine ⟨⟨rfl, trivial⟩, fun ph_ hp_ vs w hW _ => ?_⟩
          obtain rfl := memN_one hp_
          have hM : Mem w0 w [(b1, cl .u16 256 (pl n X), 26), (b2, cl .u16 256 (pl n X), 27), (b3, cl .u16 256 (pl m Y), 26), (b4, cl .u16 256 (pl m Y), 27)] := hW
          exact ⟨true, _, rfl, rfl, Det.ob hW (d_loadA Try.underlying26 rfl sz26 rfl (hM.at 0 rfl) (cl_size _ _ _))⟩
        · exact ⟨trivial, fun ph_ _ vs w hW _ => ⟨true, _, rfl, rfl, Ok1.obc (fun w' g => Mem.call hW g) (ok_call c14 rfl (Inverse_calls (pl_u hxa) _))⟩⟩
        · refine ⟨⟨rfl, trivial⟩, fun ph_ hp_ vs w hW _ => ?_⟩
          obtain rfl := memN_one hp_
          have hM : Mem w0 w [(b1, cl .u16 256 (pl n X), 26), (b2, cl .u16 256 (pl n X), 27), (b3, cl .u16 256 (pl m Y), 26), (b4, cl .u16 256 (pl m Y), 27)] := hW
          exact ⟨true, _, rfl, rfl, Det.ob hW (d_loadA Try.underlying27 rfl sz27 rfl (hM.at 1 rfl) (cl_size _ _ _))⟩
        · exact ⟨trivial, fun ph_ _ vs w hW _ => ⟨true, _, rfl, rfl, Ok1.obc (fun w' g => Mem.call hW g) (ok_call c25 rfl (RInverse_calls (pl_u hxa) _))⟩⟩
        · exact ⟨trivial, fun ph_ _ vs w hW _ => ⟨true, _, rfl, rfl, Ok1.obc (fun w' g => Mem.call hW g) (ok_call c13 rfl (is_self _ _))⟩⟩
        · exact ⟨trivial, fun ph_ _ vs w hW _ => Det.ob hW (d_pick (b := true) rfl rfl)⟩
        · exact ⟨trivial, fun ph_ _ vs w hW _ => Det.ob hW (d_move rfl)⟩
        · refine ⟨⟨rfl, trivial⟩, fun ph_ hp_ vs w hW _ => ?_⟩
          obtain rfl := memN_one hp_
          have hM : Mem w0 w [(b1, cl .u16 256 (pl n X), 26), (b2, cl .u16 256 (pl n X), 27), (b3, cl .u16 256 (pl m Y), 26), (b4, cl .u16 256 (pl m Y), 27)] := hW
          exact ⟨true, _, rfl, rfl, Det.ob hW (d_loadA Try.underlying26 rfl sz26 rfl (hM.at 0 rfl) (cl_size _ _ _))⟩
        · refine ⟨⟨rfl, trivial⟩, fun ph_ hp_ vs w hW _ => ?_⟩
          obtain rfl := memN_one hp_
          have hM : Mem w0 w [(b1, cl .u16 256 (pl n X), 26), (b2, cl .u16 256 (pl n X), 27), (b3, cl .u16 256 (pl m Y), 26), (b4, cl .u16 256 (pl m Y), 27)] := hW
          exact ⟨true, _, rfl, rfl, Det.ob hW (d_loadA Try.underlying26 rfl sz26 rfl (hM.at 2 rfl) (cl_size _ _ _))⟩
        · exact ⟨trivial, fun ph_ _ vs w hW _ => ⟨true, _, rfl, rfl, Ok1.obc (fun w' g => Mem.call hW g) (ok_call c15 rfl (Mul_calls (pl_u hxa) (pl_u hxb) _))⟩⟩
        · refine ⟨⟨rfl, trivial⟩, fun ph_ hp_ vs w hW _ => ?_⟩
          obtain rfl := memN_one hp_
          have hM : Mem w0 w [(b1, cl .u16 256 (pl n X), 26), (b2, cl .u16 256 (pl n X), 27), (b3, cl .u16 256 (pl m Y), 26), (b4, cl .u16 256 (pl m Y), 27)] := hW
          exact ⟨true, _, rfl, rfl, Det.ob hW (d_loadA Try.underlying27 rfl sz27 rfl (hM.at 1 rfl) (cl_size _ _ _))⟩
        · refine ⟨⟨rfl, trivial⟩, fun ph_ hp_ vs w hW _ => ?_⟩
          obtain rfl := memN_one hp_
          have hM : Mem w0 w [(b1, cl .u16 256 (pl n X), 26), (b2, cl .u16 256 (pl n X), 27), (b3, cl .u16 256 (pl m Y), 26), (b4, cl .u16 256 (pl m Y), 27)] := hW
          exact ⟨true, _, rfl, rfl, Det.ob hW (d_loadA Try.underlying27 rfl sz27 rfl (hM.at 3 rfl) (cl_size _ _ _))⟩
        · exact ⟨trivial, fun ph_ _ vs w hW _ => ⟨true, _, rfl, rfl, Ok1.obc (fun w' g => Mem.call hW g) (ok_call c26 rfl (RMul_calls (pl_u hxa) (pl_u hxb) _))⟩⟩
        · exact ⟨trivial, fun ph_ _ vs w hW _ => ⟨true, _, rfl, rfl, Ok1.obc (fun w' g => Mem.call hW g) (ok_call c13 rfl (is_self _ _))⟩⟩
        · exact ⟨trivial, fun ph_ _ vs w hW _ => Det.ob hW (d_pick (b := true) rfl rfl)⟩
        · exact ⟨trivial, fun ph_ _ vs w hW _ => Det.ob hW (d_move rfl)⟩
        · exact ⟨trivial, fun ph_ _ vs w hW _ => ⟨true, _, rfl, rfl, Ok1.obc (fun w' g => Mem.call hW g) (ok_call c9 rfl (awake_calls _))⟩⟩
        · exact ⟨trivial, fun ph_ _ vs w hW _ => Det.ob hW (d_pick (b := true) rfl rfl)⟩
        · exact ⟨trivial, fun ph_ _ vs w hW _ => Det.ob hW (d_assign rfl)⟩
      · intro a w vs hW _ hF
        have hM : Mem w0 w [(b1, cl .u16 256 (pl n X), 26), (b2, cl .u16 256 (pl n X), 27), (b3, cl .u16 256 (pl m Y), 26), (b4, cl .u16 256 (pl m Y), 27)] := hW
        have hF := hF.sub (L' := [(0, (Value.slice ada n ca)), (1, (Value.slice adb m cb)), (4, (Value.bool true)), (5, (Value.pointer (some ⟨b1, 0, none⟩))), (6, (Value.pointer (some ⟨b2, 0, none⟩))), (7, (Value.pointer (some ⟨b3, 0, none⟩))), (8, (Value.pointer (some ⟨b4, 0, none⟩))), (16, (Value.bool (decide (256 < (m : Int)))))]) ⟨rfl, rfl, rfl, rfl, rfl, rfl, rfl, rfl, trivial⟩
        refine then_n ?_
        refine wp_ret ?_
        refine body_ret hF (results1 Try.results5 (RV.tmp hF rfl)) ?_
        exact ⟨rfl, hM.below⟩
end Go.Mi.Ring
