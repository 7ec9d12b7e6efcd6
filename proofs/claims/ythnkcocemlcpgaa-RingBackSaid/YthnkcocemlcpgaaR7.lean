/- Walks: what functions of ring, and of the reference, return. -/
import Derived.Test.YthnkcocemlcpgaaR0
import Derived.Test.YthnkcocemlcpgaaRf
import Derived.Test.YthnkcocemlcpgaaR1
import Derived.Test.YthnkcocemlcpgaaR0a
import Derived.Test.YthnkcocemlcpgaaRm
import Derived.Test.YthnkcocemlcpgaaR5
import Derived.Test.YthnkcocemlcpgaaR4
import Derived.Test.YthnkcocemlcpgaaR0e
import Derived.Test.YthnkcocemlcpgaaR2
import Derived.Test.YthnkcocemlcpgaaR3
import Derived.Test.YthnkcocemlcpgaaRb
namespace Go.Mi.Ring
open Go.Mi Go.Proofs
set_option maxRecDepth 100000 in
theorem RingBack_calls {ada adb : Option Addr} {n m ca cb : Nat} {X Y : Nat → Int} {w0 : World} (hsa : Sl w0 ada n .u16 X) (hsb : Sl w0 adb m .u16 Y) (hxa : ∀ j, j < n → 0 ≤ X j ∧ X j < 65536) (hxb : ∀ j, j < m → 0 ≤ Y j ∧ Y j < 65536) : Calls Try.prog 3 (List.toArray [.slice ada n ca, .slice adb m cb]) w0 (Ret fun v w' => v = .bool true ∧ Gr w0 w') := by
  refine calls_of Try.func3 rfl Try.ntmps3 rfl fun a hF => ?_
  have hM := Mem.start w0
  have hF := hF.sub (L' := [(0, (Value.slice ada n ca)), (1, (Value.slice adb m cb))]) ⟨rfl, rfl, trivial⟩
  refine wp_seq ?_
  refine wp_region_lit ?_
  refine wl (d_assign rfl) rfl hF (fun a hF => ?_)
  refine wl_nil ?_
  have hF := hF.sub (L' := [(0, (Value.slice ada n ca)), (1, (Value.slice adb m cb)), (4, (Value.bool false))]) ⟨rfl, rfl, rfl, trivial⟩
  refine then_n ?_
  refine wp_seq ?_
  refine wp_seq ?_
  refine wp_region_lit ?_
  refine wl (d_move rfl) rfl hF (fun a hF => ?_)
  refine wl (d_len_slice Try.underlying22 rfl) rfl hF (fun a hF => ?_)
  refine wl (d_gtr rfl rfl) rfl hF (fun a hF => ?_)
  refine wl (d_move rfl) rfl hF (fun a hF => ?_)
  by_cases hn : (256 < (n : Int))
  · have hdec_ : decide ((256 < (n : Int))) = true := decide_eq_true hn
    rw [hdec_] at hF
    refine wlgs (c := true) rfl rfl rfl hF (fun a hF => ?_)
    refine wlgs (c := true) rfl rfl rfl hF (fun a hF => ?_)
    refine wlgs (c := true) rfl rfl rfl hF (fun a hF => ?_)
    refine wl (d_pick (b := true) rfl rfl) rfl hF (fun a hF => ?_)
    refine wl_nil ?_
    have hF := hF.sub (L' := [(0, (Value.slice ada n ca)), (1, (Value.slice adb m cb)), (4, (Value.bool false)), (17, (Value.bool true))]) ⟨rfl, rfl, rfl, rfl, trivial⟩
    refine then_n ?_
    refine wp_cond_true (hF.eval rfl) ?_
    refine wp_seq ?_
    refine wp_region_lit ?_
    refine wlR (ok_call c9 rfl (awake_calls _)) rfl hF ?_
    rintro _ w a ⟨rfl, hg⟩ hF
    have hM := hM.call hg
    refine wl (d_assign rfl) rfl hF (fun a hF => ?_)
    refine wl_nil ?_
    have hF := hF.sub (L' := [(0, (Value.slice ada n ca)), (1, (Value.slice adb m cb)), (4, (Value.bool true)), (17, (Value.bool true))]) ⟨rfl, rfl, rfl, rfl, trivial⟩
    refine then_n ?_
    refine wp_ret ?_
    refine then_ret ?_
    refine body_ret hF (results1 Try.results3 (RV.tmp hF rfl)) ?_
    exact ⟨rfl, hM.below⟩
  · have hdec_ : decide ((256 < (n : Int))) = false := decide_eq_false hn
    rw [hdec_] at hF
    refine wlg rfl (d_move rfl) rfl hF (fun a hF => ?_)
    refine wlg rfl (d_len_slice Try.underlying22 rfl) rfl hF (fun a hF => ?_)
    refine wlg rfl (d_gtr rfl rfl) rfl hF (fun a hF => ?_)
    refine wl (d_pick (b := false) rfl rfl) rfl hF (fun a hF => ?_)
    refine wl_nil ?_
    have hF := hF.sub (L' := [(0, (Value.slice ada n ca)), (1, (Value.slice adb m cb)), (4, (Value.bool false)), (17, (Value.bool (decide (256 < (m : Int)))))]) ⟨rfl, rfl, rfl, rfl, trivial⟩
    refine then_n ?_
    refine wp_if hF rfl (fun h => ?_) (fun h => ?_)
    · have hm := of_decide_eq_true h
      clear h
      refine wp_seq ?_
      refine wp_region_lit ?_
      refine wlR (ok_call c9 rfl (awake_calls _)) rfl hF ?_
      rintro _ w a ⟨rfl, hg⟩ hF
      have hM := hM.call hg
      refine wl (d_assign rfl) rfl hF (fun a hF => ?_)
      refine wl_nil ?_
      have hF := hF.sub (L' := [(0, (Value.slice ada n ca)), (1, (Value.slice adb m cb)), (4, (Value.bool true)), (17, (Value.bool (decide (256 < (m : Int)))))]) ⟨rfl, rfl, rfl, rfl, trivial⟩
      refine then_n ?_
      refine wp_ret ?_
      refine then_ret ?_
      refine body_ret hF (results1 Try.results3 (RV.tmp hF rfl)) ?_
      exact ⟨rfl, hM.below⟩
    · have hm := of_decide_eq_false h
      clear h
      refine wp_skip ?_
      refine then_n ?_
      refine wp_seq ?_
      refine wp_region_lit ?_
      refine wl (d_move rfl) rfl hF (fun a hF => ?_)
      refine wlR (ok_call c10 rfl (poly_any (by omega) (hsa.mem hM) hxa)) rfl hF ?_
      rintro _ w a ⟨rfl, hg⟩ hF
      have hM := hM.call hg
      refine wl (d_move rfl) rfl hF (fun a hF => ?_)
      refine wl (d_extract (v := (Value.agg (cl .u16 256 (pl n X)))) rfl rfl) rfl hF (fun a hF => ?_)
      refine wl (d_extract (v := (Value.agg (cl .u16 256 (pl n X)))) rfl rfl) rfl hF (fun a hF => ?_)
      refine wlR (ok_alloc z26) rfl hF ?_
      rintro _ w a ⟨b1, rfl, hnb_⟩ hF
      have hM : Mem w0 w [(b1, cl .u16 256 fun _ => 0, 26)] := hM.alloc hnb_
      refine wlR (ok_alloc z27) rfl hF ?_
      rintro _ w a ⟨b2, rfl, hnb_⟩ hF
      have hM : Mem w0 w [(b1, cl .u16 256 fun _ => 0, 26), (b2, cl .u16 256 fun _ => 0, 27)] := hM.alloc hnb_
      refine wl0R (ok_storeA (c' := cl .u16 256 (pl n X)) sz26 rfl rfl (cl_size _ _ _) (cl_one _ _ _) (hM.at 0 rfl) (cl_size _ _ _)) hF ?_
      rintro w a hu hF
      have hM : Mem w0 w [(b1, cl .u16 256 (pl n X), 26), (b2, cl .u16 256 fun _ => 0, 27)] := hM.upd 0 rfl hu
      refine wl0R (ok_storeA (c' := cl .u16 256 (pl n X)) sz27 rfl rfl (cl_size _ _ _) (cl_one _ _ _) (hM.at 1 rfl) (cl_size _ _ _)) hF ?_
      rintro w a hu hF
      have hM : Mem w0 w [(b1, cl .u16 256 (pl n X), 26), (b2, cl .u16 256 (pl n X), 27)] := hM.upd 1 rfl hu
      refine wl_nil ?_
      have hF := hF.sub (L' := [(0, (Value.slice ada n ca)), (1, (Value.slice adb m cb)), (4, (Value.bool false)), (5, (Value.pointer (some ⟨b1, 0, none⟩))), (6, (Value.pointer (some ⟨b2, 0, none⟩))), (17, (Value.bool (decide (256 < (m : Int)))))]) ⟨rfl, rfl, rfl, rfl, rfl, rfl, trivial⟩
      refine then_n ?_
      refine wp_seq ?_
      refine wp_region_lit ?_
      refine wl (d_move rfl) rfl hF (fun a hF => ?_)
      refine wlR (ok_call c10 rfl (poly_any (by omega) (hsb.mem hM) hxb)) rfl hF ?_
      rintro _ w a ⟨rfl, hg⟩ hF
      have hM := hM.call hg
      refine wl (d_move rfl) rfl hF (fun a hF => ?_)
      refine wl (d_extract (v := (Value.agg (cl .u16 256 (pl m Y)))) rfl rfl) rfl hF (fun a hF => ?_)
      refine wl (d_extract (v := (Value.agg (cl .u16 256 (pl m Y)))) rfl rfl) rfl hF (fun a hF => ?_)
      refine wlR (ok_alloc z26) rfl hF ?_
      rintro _ w a ⟨b3, rfl, hnb_⟩ hF
      have hM : Mem w0 w [(b1, cl .u16 256 (pl n X), 26), (b2, cl .u16 256 (pl n X), 27), (b3, cl .u16 256 fun _ => 0, 26)] := hM.alloc hnb_
      refine wlR (ok_alloc z27) rfl hF ?_
      rintro _ w a ⟨b4, rfl, hnb_⟩ hF
      have hM : Mem w0 w [(b1, cl .u16 256 (pl n X), 26), (b2, cl .u16 256 (pl n X), 27), (b3, cl .u16 256 fun _ => 0, 26), (b4, cl .u16 256 fun _ => 0, 27)] := hM.alloc hnb_
      refine wl0R (ok_storeA (c' := cl .u16 256 (pl m Y)) sz26 rfl rfl (cl_size _ _ _) (cl_one _ _ _) (hM.at 2 rfl) (cl_size _ _ _)) hF ?_
      rintro w a hu hF
      have hM : Mem w0 w [(b1, cl .u16 256 (pl n X), 26), (b2, cl .u16 256 (pl n X), 27), (b3, cl .u16 256 (pl m Y), 26), (b4, cl .u16 256 fun _ => 0, 27)] := hM.upd 2 rfl hu
      refine wl0R (ok_storeA (c' := cl .u16 256 (pl m Y)) sz27 rfl rfl (cl_size _ _ _) (cl_one _ _ _) (hM.at 3 rfl) (cl_size _ _ _)) hF ?_
      rintro w a hu hF
      have hM : Mem w0 w [(b1, cl .u16 256 (pl n X), 26), (b2, cl .u16 256 (pl n X), 27), (b3, cl .u16 256 (pl m Y), 26), (b4, cl .u16 256 (pl m Y), 27)] := hM.upd 3 rfl hu
      refine wl_nil ?_
      have hF := hF.sub (L' := [(0, (Value.slice ada n ca)), (1, (Value.slice adb m cb)), (4, (Value.bool false)), (5, (Value.pointer (some ⟨b1, 0, none⟩))), (6, (Value.pointer (some ⟨b2, 0, none⟩))), (7, (Value.pointer (some ⟨b3, 0, none⟩))), (8, (Value.pointer (some ⟨b4, 0, none⟩))), (17, (Value.bool (decide (256 < (m : Int)))))]) ⟨rfl, rfl, rfl, rfl, rfl, rfl, rfl, rfl, trivial⟩
      refine then_n ?_
      refine wp_seq ?_
      refine wp_seq ?_
      refine wp_region_lit ?_
      refine wl (d_loadA Try.underlying27 rfl sz27 rfl (hM.at 1 rfl) (cl_size _ _ _)) rfl hF (fun a hF => ?_)
      refine wlR (ok_call c11 rfl (RMay_calls (pl_u hxa) _)) rfl hF ?_
      rintro _ w a ⟨rfl, hg⟩ hF
      have hM := hM.call hg
      refine wl (d_bool (c := decide (sMay (pl n X) = false)) (d_not (b := sMay (pl n X)) rfl) (by cases sMay (pl n X) <;> rfl)) rfl hF (fun a hF => ?_)
      refine wl (d_move rfl) rfl hF (fun a hF => ?_)
      by_cases hmx : sMay (pl n X) = false
      · have hdec_ : decide (sMay (pl n X) = false) = true := decide_eq_true hmx
        rw [hdec_] at hF
        refine wlgs (c := true) rfl rfl rfl hF (fun a hF => ?_)
        refine wlgs (c := true) rfl rfl rfl hF (fun a hF => ?_)
        refine wlgs (c := true) rfl rfl rfl hF (fun a hF => ?_)
        refine wl (d_pick (b := true) rfl rfl) rfl hF (fun a hF => ?_)
        refine wl_nil ?_
        have hF := hF.sub (L' := [(0, (Value.slice ada n ca)), (1, (Value.slice adb m cb)), (4, (Value.bool false)), (5, (Value.pointer (some ⟨b1, 0, none⟩))), (6, (Value.pointer (some ⟨b2, 0, none⟩))), (7, (Value.pointer (some ⟨b3, 0, none⟩))), (8, (Value.pointer (some ⟨b4, 0, none⟩))), (17, (Value.bool (decide (256 < (m : Int))))), (36, (Value.bool true))]) ⟨rfl, rfl, rfl, rfl, rfl, rfl, rfl, rfl, rfl, trivial⟩
        refine then_n ?_
        refine wp_cond_true (hF.eval rfl) ?_
        refine wp_seq ?_
        refine wp_region_lit ?_
        refine wlR (ok_call c9 rfl (awake_calls _)) rfl hF ?_
        rintro _ w a ⟨rfl, hg⟩ hF
        have hM := hM.call hg
        refine wl (d_assign rfl) rfl hF (fun a hF => ?_)
        refine wl_nil ?_
        have hF := hF.sub (L' := [(0, (Value.slice ada n ca)), (1, (Value.slice adb m cb)), (4, (Value.bool true)), (5, (Value.pointer (some ⟨b1, 0, none⟩))), (6, (Value.pointer (some ⟨b2, 0, none⟩))), (7, (Value.pointer (some ⟨b3, 0, none⟩))), (8, (Value.pointer (some ⟨b4, 0, none⟩))), (17, (Value.bool (decide (256 < (m : Int))))), (36, (Value.bool true))]) ⟨rfl, rfl, rfl, rfl, rfl, rfl, rfl, rfl, rfl, trivial⟩
        refine then_n ?_
        refine wp_ret ?_
        refine then_ret ?_
        refine body_ret hF (results1 Try.results3 (RV.tmp hF rfl)) ?_
        exact ⟨rfl, hM.below⟩
      · have hdec_ : decide (sMay (pl n X) = false) = false := decide_eq_false hmx
        rw [hdec_] at hF
        refine wlg rfl (d_loadA Try.underlying27 rfl sz27 rfl (hM.at 3 rfl) (cl_size _ _ _)) rfl hF (fun a hF => ?_)
        refine wlgR rfl (ok_call c11 rfl (RMay_calls (pl_u hxb) _)) rfl hF ?_
        rintro _ w a ⟨rfl, hg⟩ hF
        have hM := hM.call hg
        refine wlg rfl (d_bool (c := decide (sMay (pl m Y) = false)) (d_not (b := sMay (pl m Y)) rfl) (by cases sMay (pl m Y) <;> rfl)) rfl hF (fun a hF => ?_)
        refine wl (d_pick (b := false) rfl rfl) rfl hF (fun a hF => ?_)
        refine wl_nil ?_
        have hF := hF.sub (L' := [(0, (Value.slice ada n ca)), (1, (Value.slice adb m cb)), (4, (Value.bool false)), (5, (Value.pointer (some ⟨b1, 0, none⟩))), (6, (Value.pointer (some ⟨b2, 0, none⟩))), (7, (Value.pointer (some ⟨b3, 0, none⟩))), (8, (Value.pointer (some ⟨b4, 0, none⟩))), (17, (Value.bool (decide (256 < (m : Int))))), (36, (Value.bool (decide (sMay (pl m Y) = false))))]) ⟨rfl, rfl, rfl, rfl, rfl, rfl, rfl, rfl, rfl, trivial⟩
        refine then_n ?_
        refine wp_if hF rfl (fun h => ?_) (fun h => ?_)
        · have hmy := of_decide_eq_true h
          clear h
          refine wp_seq ?_
          refine wp_region_lit ?_
          refine wlR (ok_call c9 rfl (awake_calls _)) rfl hF ?_
          rintro _ w a ⟨rfl, hg⟩ hF
          have hM := hM.call hg
          refine wl (d_assign rfl) rfl hF (fun a hF => ?_)
          refine wl_nil ?_
          have hF := hF.sub (L' := [(0, (Value.slice ada n ca)), (1, (Value.slice adb m cb)), (4, (Value.bool true)), (5, (Value.pointer (some ⟨b1, 0, none⟩))), (6, (Value.pointer (some ⟨b2, 0, none⟩))), (7, (Value.pointer (some ⟨b3, 0, none⟩))), (8, (Value.pointer (some ⟨b4, 0, none⟩))), (17, (Value.bool (decide (256 < (m : Int))))), (36, (Value.bool (decide (sMay (pl m Y) = false))))]) ⟨rfl, rfl, rfl, rfl, rfl, rfl, rfl, rfl, rfl, trivial⟩
          refine then_n ?_
          refine wp_ret ?_
          refine then_ret ?_
          refine body_ret hF (results1 Try.results3 (RV.tmp hF rfl)) ?_
          exact ⟨rfl, hM.below⟩
        · have hmy := of_decide_eq_false h
          clear h
          refine wp_skip ?_
          refine then_n ?_
          refine wp_seq ?_
          have hmx : sMay (pl n X) = true := by simpa using hmx
          have hmy : sMay (pl m Y) = true := by simpa using hmy
          have hrx : Red (pl n X) := fun i hi => ⟨(pl_u hxa i hi).1, sMay_true hmx i hi⟩
          have hry : Red (pl m Y) := fun i hi => ⟨(pl_u hxb i hi).1, sMay_true hmy i hi⟩
          have hb1 : ∀ i, i < 256 → sInv (sNTT (pl n X)) i = pl n X i := fun i hi => sInv_sNTT hrx hi
          have hb2 : ∀ i, i < 256 → sInv (sMul (sNTT (pl n X)) (sNTT (pl m Y))) i = sSlow (pl n X) (pl m Y) i := fun i hi => sInv_sMul _ _ hi
          have hb3 : ∀ i, i < 256 → sAdd (sNTT (pl n X)) (sNTT (pl m Y)) i = sNTT (sAdd (pl n X) (pl m Y)) i := fun i hi => (sNTT_add _ _ hi).symm
          refine wp_region_lit ?_
          refine wl (d_assign rfl) rfl hF (fun a hF => ?_)
          refine wl_nil ?_
          have hF := hF.sub (L' := [(0, (Value.slice ada n ca)), (1, (Value.slice adb m cb)), (4, (Value.bool false)), (5, (Value.pointer (some ⟨b1, 0, none⟩))), (6, (Value.pointer (some ⟨b2, 0, none⟩))), (7, (Value.pointer (some ⟨b3, 0, none⟩))), (8, (Value.pointer (some ⟨b4, 0, none⟩))), (9, (Value.func (.func 12) #[] #[])), (17, (Value.bool (decide (256 < (m : Int))))), (36, (Value.bool (decide (sMay (pl m Y) = false))))]) ⟨rfl, rfl, rfl, rfl, rfl, rfl, rfl, rfl, rfl, rfl, trivial⟩
          refine then_n ?_
          refine wp_seq ?_
          refine region_plan Tt mo (fun ph_ w => Mem w0 w (([[(b1, cl .u16 256 (pl n X), 26), (b2, cl .u16 256 (pl n X), 27), (b3, cl .u16 256 (pl m Y), 26), (b4, cl .u16 256 (pl m Y), 27)]] : List (List Blk)).getD ph_ [])) [] (rows := [⟨[], [(9, (Value.func (.func 12) #[] #[]))], [0], .val (Value.func (.func 12) #[] #[])⟩, ⟨[], [(5, (Value.pointer (some ⟨b1, 0, none⟩)))], [0], .val (Value.agg (cl .u16 256 (pl n X)))⟩, ⟨[(0, 38), (1, 39)], [], [0], .val (Value.agg (cl .u16 256 (sNTT (pl n X))))⟩, ⟨[(2, 40)], [], [0], .val (Value.agg (cl .u16 256 (sInv (sNTT (pl n X)))))⟩, ⟨[], [(6, (Value.pointer (some ⟨b2, 0, none⟩)))], [0], .val (Value.agg (cl .u16 256 (pl n X)))⟩, ⟨[(3, 41), (4, 42)], [], [0], .val (Value.bool true)⟩, ⟨[(5, 43)], [], [0], .val (Value.bool true)⟩, ⟨[(6, 44)], [(9, (Value.func (.func 12) #[] #[]))], [0], .val (Value.func (.func 12) #[] #[])⟩, ⟨[(6, 44)], [(5, (Value.pointer (some ⟨b1, 0, none⟩)))], [0], .val (Value.agg (cl .u16 256 (pl n X)))⟩, ⟨[(7, 45), (8, 46), (6, 44)], [], [0], .val (Value.agg (cl .u16 256 (sNTT (pl n X))))⟩, ⟨[(6, 44)], [(9, (Value.func (.func 12) #[] #[]))], [0], .val (Value.func (.func 12) #[] #[])⟩, ⟨[(6, 44)], [(7, (Value.pointer (some ⟨b3, 0, none⟩)))], [0], .val (Value.agg (cl .u16 256 (pl m Y)))⟩, ⟨[(10, 48), (11, 49), (6, 44)], [], [0], .val (Value.agg (cl .u16 256 (sNTT (pl m Y))))⟩, ⟨[(9, 47), (12, 50), (6, 44)], [], [0], .val (Value.agg (cl .u16 256 (sMul (sNTT (pl n X)) (sNTT (pl m Y)))))⟩, ⟨[(13, 51), (6, 44)], [], [0], .val (Value.agg (cl .u16 256 (sInv (sMul (sNTT (pl n X)) (sNTT (pl m Y))))))⟩, ⟨[(6, 44)], [(6, (Value.pointer (some ⟨b2, 0, none⟩)))], [0], .val (Value.agg (cl .u16 256 (pl n X)))⟩, ⟨[(6, 44)], [(8, (Value.pointer (some ⟨b4, 0, none⟩)))], [0], .val (Value.agg (cl .u16 256 (pl m Y)))⟩, ⟨[(15, 53), (16, 54), (6, 44)], [], [0], .val (Value.agg (cl .u16 256 (sSlow (pl n X) (pl m Y))))⟩, ⟨[(14, 52), (17, 55), (6, 44)], [], [0], .val (Value.bool true)⟩, ⟨[(6, 44), (18, 56)], [], [0], .val (Value.bool true)⟩, ⟨[(19, 57)], [], [0], .val (Value.bool true)⟩, ⟨[(20, 58)], [(9, (Value.func (.func 12) #[] #[]))], [0], .val (Value.func (.func 12) #[] #[])⟩, ⟨[(20, 58)], [(5, (Value.pointer (some ⟨b1, 0, none⟩)))], [0], .val (Value.agg (cl .u16 256 (pl n X)))⟩, ⟨[(21, 59), (22, 60), (20, 58)], [], [0], .val (Value.agg (cl .u16 256 (sNTT (pl n X))))⟩, ⟨[(20, 58)], [(9, (Value.func (.func 12) #[] #[]))], [0], .val (Value.func (.func 12) #[] #[])⟩, ⟨[(20, 58)], [(7, (Value.pointer (some ⟨b3, 0, none⟩)))], [0], .val (Value.agg (cl .u16 256 (pl m Y)))⟩, ⟨[(24, 62), (25, 63), (20, 58)], [], [0], .val (Value.agg (cl .u16 256 (sNTT (pl m Y))))⟩, ⟨[(23, 61), (26, 64), (20, 58)], [], [0], .val (Value.agg (cl .u16 256 (sAdd (sNTT (pl n X)) (sNTT (pl m Y)))))⟩, ⟨[(20, 58)], [(9, (Value.func (.func 12) #[] #[]))], [0], .val (Value.func (.func 12) #[] #[])⟩, ⟨[(20, 58)], [(5, (Value.pointer (some ⟨b1, 0, none⟩)))], [0], .val (Value.agg (cl .u16 256 (pl n X)))⟩, ⟨[(20, 58)], [(7, (Value.pointer (some ⟨b3, 0, none⟩)))], [0], .val (Value.agg (cl .u16 256 (pl m Y)))⟩, ⟨[(29, 67), (30, 68), (20, 58)], [], [0], .val (Value.agg (cl .u16 256 (sAdd (pl n X) (pl m Y))))⟩, ⟨[(28, 66), (31, 69), (20, 58)], [], [0], .val (Value.agg (cl .u16 256 (sNTT (sAdd (pl n X) (pl m Y)))))⟩, ⟨[(32, 70), (20, 58)], [], [0], .val (Value.agg (cl .u16 256 (sNTT (sAdd (pl n X) (pl m Y)))))⟩, ⟨[(27, 65), (33, 71), (20, 58)], [], [0], .val (Value.bool true)⟩, ⟨[(20, 58), (34, 72)], [], [0], .val (Value.bool true)⟩, ⟨[(35, 73)], [], [0], .val (Value.bool true)⟩, ⟨[(36, 74)], [], [0], .val (Value.bool true)⟩, ⟨[(36, 74), (37, 75)], [], [0], .val (Value.bool true)⟩, ⟨[(38, 76)], [], [0], .val (Value.bool true)⟩]) (by kernel_rfl) hF hM.drew ?_ ?_
          · refine ⟨?_, ?_, ?_, ?_, ?_, ?_, ?_, ?_, ?_, ?_, ?_, ?_, ?_, ?_, ?_, ?_, ?_, ?_, ?_, ?_, ?_, ?_, ?_, ?_, ?_, ?_, ?_, ?_, ?_, ?_, ?_, ?_, ?_, ?_, ?_, ?_, ?_, ?_, ?_, ?_, trivial⟩
            · exact ⟨⟨rfl, trivial⟩, fun ph_ _ vs w hW _ => Det.ob hW (d_move rfl)⟩
            · refine ⟨⟨rfl, trivial⟩, fun ph_ hp_ vs w hW _ => ?_⟩
              obtain rfl := memN_one hp_
              have hM : Mem w0 w [(b1, cl .u16 256 (pl n X), 26), (b2, cl .u16 256 (pl n X), 27), (b3, cl .u16 256 (pl m Y), 26), (b4, cl .u16 256 (pl m Y), 27)] := hW
              exact Det.ob hW (d_loadA Try.underlying26 rfl sz26 rfl (hM.at 0 rfl) (cl_size _ _ _))
            · exact ⟨trivial, fun ph_ _ vs w hW _ => Ok1.obc (fun w' g => Mem.call hW g) (ok_callv (first := #[]) (captured := #[]) rfl c12 rfl (NTT_calls (pl_u hxa) _))⟩
            · exact ⟨trivial, fun ph_ _ vs w hW _ => Ok1.obc (fun w' g => Mem.call hW g) (ok_call c14 rfl (Inverse_calls (sNTT_red _).u _))⟩
            · refine ⟨⟨rfl, trivial⟩, fun ph_ hp_ vs w hW _ => ?_⟩
              obtain rfl := memN_one hp_
              have hM : Mem w0 w [(b1, cl .u16 256 (pl n X), 26), (b2, cl .u16 256 (pl n X), 27), (b3, cl .u16 256 (pl m Y), 26), (b4, cl .u16 256 (pl m Y), 27)] := hW
              exact Det.ob hW (d_loadA Try.underlying27 rfl sz27 rfl (hM.at 1 rfl) (cl_size _ _ _))
            · exact ⟨trivial, fun ph_ _ vs w hW _ => Ok1.obc (fun w' g => Mem.call hW g) (ok_call c13 rfl (is_true hb1 _))⟩
            · exact ⟨trivial, fun ph_ _ vs w hW _ => Det.ob hW (d_move rfl)⟩
            · exact ⟨⟨rfl, trivial⟩, fun ph_ _ vs w hW _ => ⟨true, _, rfl, rfl, Det.ob hW (d_move rfl)⟩⟩
            · refine ⟨⟨rfl, trivial⟩, fun ph_ hp_ vs w hW _ => ?_⟩
              obtain rfl := memN_one hp_
              have hM : Mem w0 w [(b1, cl .u16 256 (pl n X), 26), (b2, cl .u16 256 (pl n X), 27), (b3, cl .u16 256 (pl m Y), 26), (b4, cl .u16 256 (pl m Y), 27)] := hW
              exact ⟨true, _, rfl, rfl, Det.ob hW (d_loadA Try.underlying26 rfl sz26 rfl (hM.at 0 rfl) (cl_size _ _ _))⟩
            · exact ⟨trivial, fun ph_ _ vs w hW _ => ⟨true, _, rfl, rfl, Ok1.obc (fun w' g => Mem.call hW g) (ok_callv (first := #[]) (captured := #[]) rfl c12 rfl (NTT_calls (pl_u hxa) _))⟩⟩
            · exact ⟨⟨rfl, trivial⟩, fun ph_ _ vs w hW _ => ⟨true, _, rfl, rfl, Det.ob hW (d_move rfl)⟩⟩
            · refine ⟨⟨rfl, trivial⟩, fun ph_ hp_ vs w hW _ => ?_⟩
              obtain rfl := memN_one hp_
              have hM : Mem w0 w [(b1, cl .u16 256 (pl n X), 26), (b2, cl .u16 256 (pl n X), 27), (b3, cl .u16 256 (pl m Y), 26), (b4, cl .u16 256 (pl m Y), 27)] := hW
              exact ⟨true, _, rfl, rfl, Det.ob hW (d_loadA Try.underlying26 rfl sz26 rfl (hM.at 2 rfl) (cl_size _ _ _))⟩
            · exact ⟨trivial, fun ph_ _ vs w hW _ => ⟨true, _, rfl, rfl, Ok1.obc (fun w' g => Mem.call hW g) (ok_callv (first := #[]) (captured := #[]) rfl c12 rfl (NTT_calls (pl_u hxb) _))⟩⟩
            · exact ⟨trivial, fun ph_ _ vs w hW _ => ⟨true, _, rfl, rfl, Ok1.obc (fun w' g => Mem.call hW g) (ok_call c15 rfl (Mul_calls (sNTT_red _).u (sNTT_red _).u _))⟩⟩
            · exact ⟨trivial, fun ph_ _ vs w hW _ => ⟨true, _, rfl, rfl, Ok1.obc (fun w' g => Mem.call hW g) (ok_call c14 rfl (Inverse_calls (sMul_red _ _).u _))⟩⟩
            · refine ⟨⟨rfl, trivial⟩, fun ph_ hp_ vs w hW _ => ?_⟩
              obtain rfl := memN_one hp_
              have hM : Mem w0 w [(b1, cl .u16 256 (pl n X), 26), (b2, cl .u16 256 (pl n X), 27), (b3, cl .u16 256 (pl m Y), 26), (b4, cl .u16 256 (pl m Y), 27)] := hW
              exact ⟨true, _, rfl, rfl, Det.ob hW (d_loadA Try.underlying27 rfl sz27 rfl (hM.at 1 rfl) (cl_size _ _ _))⟩
            · refine ⟨⟨rfl, trivial⟩, fun ph_ hp_ vs w hW _ => ?_⟩
              obtain rfl := memN_one hp_
              have hM : Mem w0 w [(b1, cl .u16 256 (pl n X), 26), (b2, cl .u16 256 (pl n X), 27), (b3, cl .u16 256 (pl m Y), 26), (b4, cl .u16 256 (pl m Y), 27)] := hW
              exact ⟨true, _, rfl, rfl, Det.ob hW (d_loadA Try.underlying27 rfl sz27 rfl (hM.at 3 rfl) (cl_size _ _ _))⟩
            · exact ⟨trivial, fun ph_ _ vs w hW _ => ⟨true, _, rfl, rfl, Ok1.obc (fun w' g => Mem.call hW g) (ok_call c16 rfl (Slow_calls (pl_u hxa) (pl_u hxb) _))⟩⟩
            · exact ⟨trivial, fun ph_ _ vs w hW _ => ⟨true, _, rfl, rfl, Ok1.obc (fun w' g => Mem.call hW g) (ok_call c13 rfl (is_true hb2 _))⟩⟩
            · exact ⟨trivial, fun ph_ _ vs w hW _ => Det.ob hW (d_pick (b := true) rfl rfl)⟩
            · exact ⟨trivial, fun ph_ _ vs w hW _ => Det.ob hW (d_move rfl)⟩
            · exact ⟨⟨rfl, trivial⟩, fun ph_ _ vs w hW _ => ⟨true, _, rfl, rfl, Det.ob hW (d_move rfl)⟩⟩
            · refine ⟨⟨rfl, trivial⟩, fun ph_ hp_ vs w hW _ => ?_⟩
              obtain rfl := memN_one hp_
              have hM : Mem w0 w [(b1, cl .u16 256 (pl n X), 26), (b2, cl .u16 256 (pl n X), 27), (b3, cl .u16 256 (pl m Y), 26), (b4, cl .u16 256 (pl m Y), 27)] := hW
              exact ⟨true, _, rfl, rfl, Det.ob hW (d_loadA Try.underlying26 rfl sz26 rfl (hM.at 0 rfl) (cl_size _ _ _))⟩
            · exact ⟨trivial, fun ph_ _ vs w hW _ => ⟨true, _, rfl, rfl, Ok1.obc (fun w' g => Mem.call hW g) (ok_callv (first := #[]) (captured := #[]) rfl c12 rfl (NTT_calls (pl_u hxa) _))⟩⟩
            · exact ⟨⟨rfl, trivial⟩, fun ph_ _ vs w hW _ => ⟨true, _, rfl, rfl, Det.ob hW (d_move rfl)⟩⟩
            · refine ⟨⟨rfl, trivial⟩, fun ph_ hp_ vs w hW _ => ?_⟩
              obtain rfl := memN_one hp_
              have hM : Mem w0 w [(b1, cl .u16 256 (pl n X), 26), (b2, cl .u16 256 (pl n X), 27), (b3, cl .u16 256 (pl m Y), 26), (b4, cl .u16 256 (pl m Y), 27)] := hW
              exact ⟨true, _, rfl, rfl, Det.ob hW (d_loadA Try.underlying26 rfl sz26 rfl (hM.at 2 rfl) (cl_size _ _ _))⟩
            · exact ⟨trivial, fun ph_ _ vs w hW _ => ⟨true, _, rfl, rfl, Ok1.obc (fun w' g => Mem.call hW g) (ok_callv (first := #[]) (captured := #[]) rfl c12 rfl (NTT_calls (pl_u hxb) _))⟩⟩
            · exact ⟨trivial, fun ph_ _ vs w hW _ => ⟨true, _, rfl, rfl, Ok1.obc (fun w' g => Mem.call hW g) (ok_call c17 rfl (Add_calls (sNTT_red _).u (sNTT_red _).u _))⟩⟩
            · exact ⟨⟨rfl, trivial⟩, fun ph_ _ vs w hW _ => ⟨true, _, rfl, rfl, Det.ob hW (d_move rfl)⟩⟩
            · refine ⟨⟨rfl, trivial⟩, fun ph_ hp_ vs w hW _ => ?_⟩
              obtain rfl := memN_one hp_
              have hM : Mem w0 w [(b1, cl .u16 256 (pl n X), 26), (b2, cl .u16 256 (pl n X), 27), (b3, cl .u16 256 (pl m Y), 26), (b4, cl .u16 256 (pl m Y), 27)] := hW
              exact ⟨true, _, rfl, rfl, Det.ob hW (d_loadA Try.underlying26 rfl sz26 rfl (hM.at 0 rfl) (cl_size _ _ _))⟩
            · refine ⟨⟨rfl, trivial⟩, fun ph_ hp_ vs w hW _ => ?_⟩
              obtain rfl := memN_one hp_
              have hM : Mem w0 w [(b1, cl .u16 256 (pl n X), 26), (b2, cl .u16 256 (pl n X), 27), (b3, cl .u16 256 (pl m Y), 26), (b4, cl .u16 256 (pl m Y), 27)] := hW
              exact ⟨true, _, rfl, rfl, Det.ob hW (d_loadA Try.underlying26 rfl sz26 rfl (hM.at 2 rfl) (cl_size _ _ _))⟩
            · exact ⟨trivial, fun ph_ _ vs w hW _ => ⟨true, _, rfl, rfl, Ok1.obc (fun w' g => Mem.call hW g) (ok_call c17 rfl (Add_calls (pl_u hxa) (pl_u hxb) _))⟩⟩
            · exact ⟨trivial, fun ph_ _ vs w hW _ => ⟨true, _, rfl, rfl, Ok1.obc (fun w' g => Mem.call hW g) (ok_callv (first := #[]) (captured := #[]) rfl c12 rfl (NTT_calls (sAdd_red _ _).u _))⟩⟩
            · exact ⟨trivial, fun ph_ _ vs w hW _ => ⟨true, _, rfl, rfl, Ok1.obc (fun w' g => Mem.call hW g) (ok_call c18 rfl (f2_calls _ _))⟩⟩
            · exact ⟨trivial, fun ph_ _ vs w hW _ => ⟨true, _, rfl, rfl, Ok1.obc (fun w' g => Mem.call hW g) (ok_call c13 rfl (is_true hb3 _))⟩⟩
            · exact ⟨trivial, fun ph_ _ vs w hW _ => Det.ob hW (d_pick (b := true) rfl rfl)⟩
            · exact ⟨trivial, fun ph_ _ vs w hW _ => Det.ob hW (d_move rfl)⟩
            · exact ⟨trivial, fun ph_ _ vs w hW _ => ⟨true, _, rfl, rfl, Ok1.obc (fun w' g => Mem.call hW g) (ok_call c9 rfl (awake_calls _))⟩⟩
            · exact ⟨trivial, fun ph_ _ vs w hW _ => Det.ob hW (d_pick (b := true) rfl rfl)⟩
            · exact ⟨trivial, fun ph_ _ vs w hW _ => Det.ob hW (d_assign rfl)⟩
          · intro a w vs hW _ hF
            have hM : Mem w0 w [(b1, cl .u16 256 (pl n X), 26), (b2, cl .u16 256 (pl n X), 27), (b3, cl .u16 256 (pl m Y), 26), (b4, cl .u16 256 (pl m Y), 27)] := hW
            have hF := hF.sub (L' := [(0, (Value.slice ada n ca)), (1, (Value.slice adb m cb)), (4, (Value.bool true)), (5, (Value.pointer (some ⟨b1, 0, none⟩))), (6, (Value.pointer (some ⟨b2, 0, none⟩))), (7, (Value.pointer (some ⟨b3, 0, none⟩))), (8, (Value.pointer (some ⟨b4, 0, none⟩))), (9, (Value.func (.func 12) #[] #[])), (17, (Value.bool (decide (256 < (m : Int))))), (36, (Value.bool (decide (sMay (pl m Y) = false))))]) ⟨rfl, rfl, rfl, rfl, rfl, rfl, rfl, rfl, rfl, rfl, trivial⟩
            refine then_n ?_
            refine wp_ret ?_
            refine body_ret hF (results1 Try.results3 (RV.tmp hF rfl)) ?_
            exact ⟨rfl, hM.below⟩

set_option maxRecDepth 100000 in
theorem RingLinear_calls {ada adb : Option Addr} {n m ca cb : Nat} {k : Int} {X Y : Nat → Int} {w0 : World} (hsa : Sl w0 ada n .u16 X) (hsb : Sl w0 adb m .u16 Y) (hxa : ∀ j, j < n → 0 ≤ X j ∧ X j < 65536) (hxb : ∀ j, j < m → 0 ≤ Y j ∧ Y j < 65536) (hk : -9223372036854775808 ≤ k ∧ k ≤ 9223372036854775807) : Calls Try.prog 4 (List.toArray [.slice ada n ca, .slice adb m cb, .int .i64 k]) w0 (Ret fun v w' => v = .bool true ∧ Gr w0 w') := by
  refine calls_of Try.func4 rfl Try.ntmps4 rfl fun a hF => ?_
  have hM := Mem.start w0
  have hF := hF.sub (L' := [(0, (Value.slice ada n ca)), (1, (Value.slice adb m cb)), (2, (Value.int .i64 k))]) ⟨rfl, rfl, rfl, trivial⟩
  refine wp_seq ?_
  refine wp_region_lit ?_
  refine wl (d_assign rfl) rfl hF (fun a hF => ?_)
  refine wl_nil ?_
  have hF := hF.sub (L' := [(0, (Value.slice ada n ca)), (1, (Value.slice adb m cb)), (2, (Value.int .i64 k)), (6, (Value.bool false))]) ⟨rfl, rfl, rfl, rfl, trivial⟩
  refine then_n ?_
  refine wp_seq ?_
  refine wp_seq ?_
  refine wp_region_lit ?_
  refine wl (d_move rfl) rfl hF (fun a hF => ?_)
  refine wl (d_len_slice Try.underlying22 rfl) rfl hF (fun a hF => ?_)
  refine wl (d_gtr rfl rfl) rfl hF (fun a hF => ?_)
  refine wl (d_move rfl) rfl hF (fun a hF => ?_)
  by_cases hn : (256 < (n : Int))
  · have hdec_ : decide ((256 < (n : Int))) = true := decide_eq_true hn
    rw [hdec_] at hF
    refine wlgs (c := true) rfl rfl rfl hF (fun a hF => ?_)
    refine wlgs (c := true) rfl rfl rfl hF (fun a hF => ?_)
    refine wlgs (c := true) rfl rfl rfl hF (fun a hF => ?_)
    refine wl (d_pick (b := true) rfl rfl) rfl hF (fun a hF => ?_)
    refine wl_nil ?_
    have hF := hF.sub (L' := [(0, (Value.slice ada n ca)), (1, (Value.slice adb m cb)), (2, (Value.int .i64 k)), (6, (Value.bool false)), (23, (Value.bool true))]) ⟨rfl, rfl, rfl, rfl, rfl, trivial⟩
    refine then_n ?_
    refine wp_cond_true (hF.eval rfl) ?_
    refine wp_seq ?_
    refine wp_region_lit ?_
    refine wlR (ok_call c9 rfl (awake_calls _)) rfl hF ?_
    rintro _ w a ⟨rfl, hg⟩ hF
    have hM := hM.call hg
    refine wl (d_assign rfl) rfl hF (fun a hF => ?_)
    refine wl_nil ?_
    have hF := hF.sub (L' := [(0, (Value.slice ada n ca)), (1, (Value.slice adb m cb)), (2, (Value.int .i64 k)), (6, (Value.bool true)), (23, (Value.bool true))]) ⟨rfl, rfl, rfl, rfl, rfl, trivial⟩
    refine then_n ?_
    refine wp_ret ?_
    refine then_ret ?_
    refine body_ret hF (results1 Try.results4 (RV.tmp hF rfl)) ?_
    exact ⟨rfl, hM.below⟩
  · have hdec_ : decide ((256 < (n : Int))) = false := decide_eq_false hn
    rw [hdec_] at hF
    refine wlg rfl (d_move rfl) rfl hF (fun a hF => ?_)
    refine wlg rfl (d_len_slice Try.underlying22 rfl) rfl hF (fun a hF => ?_)
    refine wlg rfl (d_gtr rfl rfl) rfl hF (fun a hF => ?_)
    refine wl (d_pick (b := false) rfl rfl) rfl hF (fun a hF => ?_)
    refine wl_nil ?_
    have hF := hF.sub (L' := [(0, (Value.slice ada n ca)), (1, (Value.slice adb m cb)), (2, (Value.int .i64 k)), (6, (Value.bool false)), (23, (Value.bool (decide (256 < (m : Int)))))]) ⟨rfl, rfl, rfl, rfl, rfl, trivial⟩
    refine then_n ?_
    refine wp_if hF rfl (fun h => ?_) (fun h => ?_)
    · have hm := of_decide_eq_true h
      clear h
      refine wp_seq ?_
      refine wp_region_lit ?_
      refine wlR (ok_call c9 rfl (awake_calls _)) rfl hF ?_
      rintro _ w a ⟨rfl, hg⟩ hF
      have hM := hM.call hg
      refine wl (d_assign rfl) rfl hF (fun a hF => ?_)
      refine wl_nil ?_
      have hF := hF.sub (L' := [(0, (Value.slice ada n ca)), (1, (Value.slice adb m cb)), (2, (Value.int .i64 k)), (6, (Value.bool true)), (23, (Value.bool (decide (256 < (m : Int)))))]) ⟨rfl, rfl, rfl, rfl, rfl, trivial⟩
      refine then_n ?_
      refine wp_ret ?_
      refine then_ret ?_
      refine body_ret hF (results1 Try.results4 (RV.tmp hF rfl)) ?_
      exact ⟨rfl, hM.below⟩
    · have hm := of_decide_eq_false h
      clear h
      refine wp_skip ?_
      refine then_n ?_
      refine wp_seq ?_
      refine wp_region_lit ?_
      refine wl (d_move rfl) rfl hF (fun a hF => ?_)
      refine wlR (ok_call c10 rfl (poly_any (by omega) (hsa.mem hM) hxa)) rfl hF ?_
      rintro _ w a ⟨rfl, hg⟩ hF
      have hM := hM.call hg
      refine wl (d_move rfl) rfl hF (fun a hF => ?_)
      refine wl (d_extract (v := (Value.agg (cl .u16 256 (pl n X)))) rfl rfl) rfl hF (fun a hF => ?_)
      refine wl (d_extract (v := (Value.agg (cl .u16 256 (pl n X)))) rfl rfl) rfl hF (fun a hF => ?_)
      refine wlR (ok_alloc z26) rfl hF ?_
      rintro _ w a ⟨b1, rfl, hnb_⟩ hF
      have hM : Mem w0 w [(b1, cl .u16 256 fun _ => 0, 26)] := hM.alloc hnb_
      refine wlR (ok_alloc z27) rfl hF ?_
      rintro _ w a ⟨b2, rfl, hnb_⟩ hF
      have hM : Mem w0 w [(b1, cl .u16 256 fun _ => 0, 26), (b2, cl .u16 256 fun _ => 0, 27)] := hM.alloc hnb_
      refine wl0R (ok_storeA (c' := cl .u16 256 (pl n X)) sz26 rfl rfl (cl_size _ _ _) (cl_one _ _ _) (hM.at 0 rfl) (cl_size _ _ _)) hF ?_
      rintro w a hu hF
      have hM : Mem w0 w [(b1, cl .u16 256 (pl n X), 26), (b2, cl .u16 256 fun _ => 0, 27)] := hM.upd 0 rfl hu
      refine wl0R (ok_storeA (c' := cl .u16 256 (pl n X)) sz27 rfl rfl (cl_size _ _ _) (cl_one _ _ _) (hM.at 1 rfl) (cl_size _ _ _)) hF ?_
      rintro w a hu hF
      have hM : Mem w0 w [(b1, cl .u16 256 (pl n X), 26), (b2, cl .u16 256 (pl n X), 27)] := hM.upd 1 rfl hu
      refine wl_nil ?_
      have hF := hF.sub (L' := [(0, (Value.slice ada n ca)), (1, (Value.slice adb m cb)), (2, (Value.int .i64 k)), (6, (Value.bool false)), (7, (Value.pointer (some ⟨b1, 0, none⟩))), (8, (Value.pointer (some ⟨b2, 0, none⟩))), (23, (Value.bool (decide (256 < (m : Int)))))]) ⟨rfl, rfl, rfl, rfl, rfl, rfl, rfl, trivial⟩
      refine then_n ?_
      refine wp_seq ?_
      refine wp_region_lit ?_
      refine wl (d_move rfl) rfl hF (fun a hF => ?_)
      refine wlR (ok_call c10 rfl (poly_any (by omega) (hsb.mem hM) hxb)) rfl hF ?_
      rintro _ w a ⟨rfl, hg⟩ hF
      have hM := hM.call hg
      refine wl (d_move rfl) rfl hF (fun a hF => ?_)
      refine wl (d_extract (v := (Value.agg (cl .u16 256 (pl m Y)))) rfl rfl) rfl hF (fun a hF => ?_)
      refine wl (d_extract (v := (Value.agg (cl .u16 256 (pl m Y)))) rfl rfl) rfl hF (fun a hF => ?_)
      refine wlR (ok_alloc z26) rfl hF ?_
      rintro _ w a ⟨b3, rfl, hnb_⟩ hF
      have hM : Mem w0 w [(b1, cl .u16 256 (pl n X), 26), (b2, cl .u16 256 (pl n X), 27), (b3, cl .u16 256 fun _ => 0, 26)] := hM.alloc hnb_
      refine wlR (ok_alloc z27) rfl hF ?_
      rintro _ w a ⟨b4, rfl, hnb_⟩ hF
      have hM : Mem w0 w [(b1, cl .u16 256 (pl n X), 26), (b2, cl .u16 256 (pl n X), 27), (b3, cl .u16 256 fun _ => 0, 26), (b4, cl .u16 256 fun _ => 0, 27)] := hM.alloc hnb_
      refine wl0R (ok_storeA (c' := cl .u16 256 (pl m Y)) sz26 rfl rfl (cl_size _ _ _) (cl_one _ _ _) (hM.at 2 rfl) (cl_size _ _ _)) hF ?_
      rintro w a hu hF
      have hM : Mem w0 w [(b1, cl .u16 256 (pl n X), 26), (b2, cl .u16 256 (pl n X), 27), (b3, cl .u16 256 (pl m Y), 26), (b4, cl .u16 256 fun _ => 0, 27)] := hM.upd 2 rfl hu
      refine wl0R (ok_storeA (c' := cl .u16 256 (pl m Y)) sz27 rfl rfl (cl_size _ _ _) (cl_one _ _ _) (hM.at 3 rfl) (cl_size _ _ _)) hF ?_
      rintro w a hu hF
      have hM : Mem w0 w [(b1, cl .u16 256 (pl n X), 26), (b2, cl .u16 256 (pl n X), 27), (b3, cl .u16 256 (pl m Y), 26), (b4, cl .u16 256 (pl m Y), 27)] := hM.upd 3 rfl hu
      refine wl_nil ?_
      have hF := hF.sub (L' := [(0, (Value.slice ada n ca)), (1, (Value.slice adb m cb)), (2, (Value.int .i64 k)), (6, (Value.bool false)), (7, (Value.pointer (some ⟨b1, 0, none⟩))), (8, (Value.pointer (some ⟨b2, 0, none⟩))), (9, (Value.pointer (some ⟨b3, 0, none⟩))), (10, (Value.pointer (some ⟨b4, 0, none⟩))), (23, (Value.bool (decide (256 < (m : Int)))))]) ⟨rfl, rfl, rfl, rfl, rfl, rfl, rfl, rfl, rfl, trivial⟩
      refine then_n ?_
      refine wp_seq ?_
      refine wp_seq ?_
      refine wp_region_lit ?_
      refine wl (d_loadA Try.underlying27 rfl sz27 rfl (hM.at 1 rfl) (cl_size _ _ _)) rfl hF (fun a hF => ?_)
      refine wlR (ok_call c11 rfl (RMay_calls (pl_u hxa) _)) rfl hF ?_
      rintro _ w a ⟨rfl, hg⟩ hF
      have hM := hM.call hg
      refine wl (d_bool (c := decide (sMay (pl n X) = false)) (d_not (b := sMay (pl n X)) rfl) (by cases sMay (pl n X) <;> rfl)) rfl hF (fun a hF => ?_)
      refine wl (d_move rfl) rfl hF (fun a hF => ?_)
      by_cases hmx : sMay (pl n X) = false
      · have hdec_ : decide (sMay (pl n X) = false) = true := decide_eq_true hmx
        rw [hdec_] at hF
        refine wlgs (c := true) rfl rfl rfl hF (fun a hF => ?_)
        refine wlgs (c := true) rfl rfl rfl hF (fun a hF => ?_)
        refine wlgs (c := true) rfl rfl rfl hF (fun a hF => ?_)
        refine wl (d_pick (b := true) rfl rfl) rfl hF (fun a hF => ?_)
        refine wl_nil ?_
        have hF := hF.sub (L' := [(0, (Value.slice ada n ca)), (1, (Value.slice adb m cb)), (2, (Value.int .i64 k)), (6, (Value.bool false)), (7, (Value.pointer (some ⟨b1, 0, none⟩))), (8, (Value.pointer (some ⟨b2, 0, none⟩))), (9, (Value.pointer (some ⟨b3, 0, none⟩))), (10, (Value.pointer (some ⟨b4, 0, none⟩))), (23, (Value.bool (decide (256 < (m : Int))))), (42, (Value.bool true))]) ⟨rfl, rfl, rfl, rfl, rfl, rfl, rfl, rfl, rfl, rfl, trivial⟩
        refine then_n ?_
        refine wp_cond_true (hF.eval rfl) ?_
        refine wp_seq ?_
        refine wp_region_lit ?_
        refine wlR (ok_call c9 rfl (awake_calls _)) rfl hF ?_
        rintro _ w a ⟨rfl, hg⟩ hF
        have hM := hM.call hg
        refine wl (d_assign rfl) rfl hF (fun a hF => ?_)
        refine wl_nil ?_
        have hF := hF.sub (L' := [(0, (Value.slice ada n ca)), (1, (Value.slice adb m cb)), (2, (Value.int .i64 k)), (6, (Value.bool true)), (7, (Value.pointer (some ⟨b1, 0, none⟩))), (8, (Value.pointer (some ⟨b2, 0, none⟩))), (9, (Value.pointer (some ⟨b3, 0, none⟩))), (10, (Value.pointer (some ⟨b4, 0, none⟩))), (23, (Value.bool (decide (256 < (m : Int))))), (42, (Value.bool true))]) ⟨rfl, rfl, rfl, rfl, rfl, rfl, rfl, rfl, rfl, rfl, trivial⟩
        refine then_n ?_
        refine wp_ret ?_
        refine then_ret ?_
        refine body_ret hF (results1 Try.results4 (RV.tmp hF rfl)) ?_
        exact ⟨rfl, hM.below⟩
      · have hdec_ : decide (sMay (pl n X) = false) = false := decide_eq_false hmx
        rw [hdec_] at hF
        refine wlg rfl (d_loadA Try.underlying27 rfl sz27 rfl (hM.at 3 rfl) (cl_size _ _ _)) rfl hF (fun a hF => ?_)
        refine wlgR rfl (ok_call c11 rfl (RMay_calls (pl_u hxb) _)) rfl hF ?_
        rintro _ w a ⟨rfl, hg⟩ hF
        have hM := hM.call hg
        refine wlg rfl (d_bool (c := decide (sMay (pl m Y) = false)) (d_not (b := sMay (pl m Y)) rfl) (by cases sMay (pl m Y) <;> rfl)) rfl hF (fun a hF => ?_)
        refine wl (d_pick (b := false) rfl rfl) rfl hF (fun a hF => ?_)
        refine wl_nil ?_
        have hF := hF.sub (L' := [(0, (Value.slice ada n ca)), (1, (Value.slice adb m cb)), (2, (Value.int .i64 k)), (6, (Value.bool false)), (7, (Value.pointer (some ⟨b1, 0, none⟩))), (8, (Value.pointer (some ⟨b2, 0, none⟩))), (9, (Value.pointer (some ⟨b3, 0, none⟩))), (10, (Value.pointer (some ⟨b4, 0, none⟩))), (23, (Value.bool (decide (256 < (m : Int))))), (42, (Value.bool (decide (sMay (pl m Y) = false))))]) ⟨rfl, rfl, rfl, rfl, rfl, rfl, rfl, rfl, rfl, rfl, trivial⟩
        refine then_n ?_
        refine wp_if hF rfl (fun h => ?_) (fun h => ?_)
        · have hmy := of_decide_eq_true h
          clear h
          refine wp_seq ?_
          refine wp_region_lit ?_
          refine wlR (ok_call c9 rfl (awake_calls _)) rfl hF ?_
          rintro _ w a ⟨rfl, hg⟩ hF
          have hM := hM.call hg
          refine wl (d_assign rfl) rfl hF (fun a hF => ?_)
          refine wl_nil ?_
          have hF := hF.sub (L' := [(0, (Value.slice ada n ca)), (1, (Value.slice adb m cb)), (2, (Value.int .i64 k)), (6, (Value.bool true)), (7, (Value.pointer (some ⟨b1, 0, none⟩))), (8, (Value.pointer (some ⟨b2, 0, none⟩))), (9, (Value.pointer (some ⟨b3, 0, none⟩))), (10, (Value.pointer (some ⟨b4, 0, none⟩))), (23, (Value.bool (decide (256 < (m : Int))))), (42, (Value.bool (decide (sMay (pl m Y) = false))))]) ⟨rfl, rfl, rfl, rfl, rfl, rfl, rfl, rfl, rfl, rfl, trivial⟩
          refine then_n ?_
          refine wp_ret ?_
          refine then_ret ?_
          refine body_ret hF (results1 Try.results4 (RV.tmp hF rfl)) ?_
          exact ⟨rfl, hM.below⟩
        · have hmy := of_decide_eq_false h
          clear h
          refine wp_skip ?_
          refine then_n ?_
          refine wp_seq ?_
          have hmx : sMay (pl n X) = true := by simpa using hmx
          have hmy : sMay (pl m Y) = true := by simpa using hmy
          have hrx : Red (pl n X) := fun i hi => ⟨(pl_u hxa i hi).1, sMay_true hmx i hi⟩
          have hry : Red (pl m Y) := fun i hi => ⟨(pl_u hxb i hi).1, sMay_true hmy i hi⟩
          refine wp_region_lit ?_
          refine wl (d_assign rfl) rfl hF (fun a hF => ?_)
          refine wl_nil ?_
          have hF := hF.sub (L' := [(0, (Value.slice ada n ca)), (1, (Value.slice adb m cb)), (2, (Value.int .i64 k)), (6, (Value.bool false)), (7, (Value.pointer (some ⟨b1, 0, none⟩))), (8, (Value.pointer (some ⟨b2, 0, none⟩))), (9, (Value.pointer (some ⟨b3, 0, none⟩))), (10, (Value.pointer (some ⟨b4, 0, none⟩))), (11, (Value.func (.func 12) #[] #[])), (23, (Value.bool (decide (256 < (m : Int))))), (42, (Value.bool (decide (sMay (pl m Y) = false))))]) ⟨rfl, rfl, rfl, rfl, rfl, rfl, rfl, rfl, rfl, rfl, rfl, trivial⟩
          refine then_n ?_
          refine wp_seq ?_
          refine wp_region_lit ?_
          refine wl (d_move rfl) rfl hF (fun a hF => ?_)
          refine wlR (ok_call c19 rfl (Round_calls (by omega) (by omega) _)) rfl hF ?_
          rintro _ w a ⟨rfl, hg⟩ hF
          have hM := hM.call hg
          refine wl (d_assign rfl) rfl hF (fun a hF => ?_)
          refine wl_nil ?_
          have hF := hF.sub (L' := [(0, (Value.slice ada n ca)), (1, (Value.slice adb m cb)), (2, (Value.int .i64 (k % 256))), (6, (Value.bool false)), (7, (Value.pointer (some ⟨b1, 0, none⟩))), (8, (Value.pointer (some ⟨b2, 0, none⟩))), (9, (Value.pointer (some ⟨b3, 0, none⟩))), (10, (Value.pointer (some ⟨b4, 0, none⟩))), (11, (Value.func (.func 12) #[] #[])), (23, (Value.bool (decide (256 < (m : Int))))), (42, (Value.bool (decide (sMay (pl m Y) = false))))]) ⟨rfl, rfl, rfl, rfl, rfl, rfl, rfl, rfl, rfl, rfl, rfl, trivial⟩
          refine then_n ?_
          refine wp_seq ?_
          obtain ⟨K, hK⟩ := Int.eq_ofNat_of_zero_le (show 0 ≤ k % 256 by omega)
          have hK2 : K < 256 := by omega
          rw [hK] at hF
          have hS : ∀ i, i < 256 → upd (fun _ => (0 : Int)) K 1 i = if i = K then 1 else 0 := fun i _ => rfl
          have hus : U16 (upd (fun _ => (0 : Int)) K 1) := fun i _ => by simp only [upd]; split <;> omega
          refine wp_region_lit ?_
          refine wlR (ok_alloc z26) rfl hF ?_
          rintro _ w a ⟨b5, rfl, hnb_⟩ hF
          have hM : Mem w0 w [(b1, cl .u16 256 (pl n X), 26), (b2, cl .u16 256 (pl n X), 27), (b3, cl .u16 256 (pl m Y), 26), (b4, cl .u16 256 (pl m Y), 27), (b5, cl .u16 256 fun _ => 0, 26)] := hM.alloc hnb_
          refine wlR (ok_alloc z26) rfl hF ?_
          rintro _ w a ⟨b6, rfl, hnb_⟩ hF
          have hM : Mem w0 w [(b1, cl .u16 256 (pl n X), 26), (b2, cl .u16 256 (pl n X), 27), (b3, cl .u16 256 (pl m Y), 26), (b4, cl .u16 256 (pl m Y), 27), (b5, cl .u16 256 fun _ => 0, 26), (b6, cl .u16 256 fun _ => 0, 26)] := hM.alloc hnb_
          refine wl_nil ?_
          have hF := hF.sub (L' := [(0, (Value.slice ada n ca)), (1, (Value.slice adb m cb)), (2, (Value.int .i64 (K : Int))), (6, (Value.bool false)), (7, (Value.pointer (some ⟨b1, 0, none⟩))), (8, (Value.pointer (some ⟨b2, 0, none⟩))), (9, (Value.pointer (some ⟨b3, 0, none⟩))), (10, (Value.pointer (some ⟨b4, 0, none⟩))), (11, (Value.func (.func 12) #[] #[])), (12, (Value.pointer (some ⟨b5, 0, none⟩))), (13, (Value.pointer (some ⟨b6, 0, none⟩))), (23, (Value.bool (decide (256 < (m : Int))))), (42, (Value.bool (decide (sMay (pl m Y) = false))))]) ⟨rfl, rfl, rfl, rfl, rfl, rfl, rfl, rfl, rfl, rfl, rfl, rfl, rfl, trivial⟩
          refine then_n ?_
          refine wp_seq ?_
          refine wp_region_lit ?_
          refine wl (d_move rfl) rfl hF (fun a hF => ?_)
          refine wl (d_ixA0 (j := K) Try.underlying26 sz24 rfl rfl rfl (by omega)) rfl hF (fun a hF => ?_)
          refine wl0R (ok_store1 (v := (Value.int .u16 1)) sz24 rfl rfl rfl (hM.at 4 rfl) (by rw [cl_size]; omega)) hF ?_
          rintro w a hu hF
          rw [cl_set] at hu
          have hM : Mem w0 w [(b1, cl .u16 256 (pl n X), 26), (b2, cl .u16 256 (pl n X), 27), (b3, cl .u16 256 (pl m Y), 26), (b4, cl .u16 256 (pl m Y), 27), (b5, cl .u16 256 (upd (fun _ => 0) K 1), 26), (b6, cl .u16 256 fun _ => 0, 26)] := hM.upd 4 rfl hu
          refine wl_nil ?_
          have hF := hF.sub (L' := [(0, (Value.slice ada n ca)), (1, (Value.slice adb m cb)), (2, (Value.int .i64 (K : Int))), (6, (Value.bool false)), (7, (Value.pointer (some ⟨b1, 0, none⟩))), (8, (Value.pointer (some ⟨b2, 0, none⟩))), (9, (Value.pointer (some ⟨b3, 0, none⟩))), (10, (Value.pointer (some ⟨b4, 0, none⟩))), (11, (Value.func (.func 12) #[] #[])), (12, (Value.pointer (some ⟨b5, 0, none⟩))), (13, (Value.pointer (some ⟨b6, 0, none⟩))), (23, (Value.bool (decide (256 < (m : Int))))), (42, (Value.bool (decide (sMay (pl m Y) = false))))]) ⟨rfl, rfl, rfl, rfl, rfl, rfl, rfl, rfl, rfl, rfl, rfl, rfl, rfl, trivial⟩
          refine then_n ?_
          refine wp_seq ?_
          refine wp_seq ?_
          refine wp_region_lit ?_
          refine wl (d_assign rfl) rfl hF (fun a hF => ?_)
          refine wl_nil ?_
          have hF := hF.sub (L' := [(0, (Value.slice ada n ca)), (1, (Value.slice adb m cb)), (2, (Value.int .i64 (K : Int))), (6, (Value.bool false)), (7, (Value.pointer (some ⟨b1, 0, none⟩))), (8, (Value.pointer (some ⟨b2, 0, none⟩))), (9, (Value.pointer (some ⟨b3, 0, none⟩))), (10, (Value.pointer (some ⟨b4, 0, none⟩))), (11, (Value.func (.func 12) #[] #[])), (12, (Value.pointer (some ⟨b5, 0, none⟩))), (13, (Value.pointer (some ⟨b6, 0, none⟩))), (14, (Value.int .i64 0)), (23, (Value.bool (decide (256 < (m : Int))))), (42, (Value.bool (decide (sMay (pl m Y) = false))))]) ⟨rfl, rfl, rfl, rfl, rfl, rfl, rfl, rfl, rfl, rfl, rfl, rfl, rfl, rfl, trivial⟩
          refine then_n ?_
          refine wp_block ?_
          refine wp_loop_k (fun fu_ a w => ∃ i : Nat, fu_ = 256 - i ∧ (i ≤ 256) ∧ Frm a 116 [(2, (Value.int .i64 (K : Int))), (7, (Value.pointer (some ⟨b1, 0, none⟩))), (9, (Value.pointer (some ⟨b3, 0, none⟩))), (11, (Value.func (.func 12) #[] #[])), (12, (Value.pointer (some ⟨b5, 0, none⟩))), (13, (Value.pointer (some ⟨b6, 0, none⟩))), (14, (Value.int .i64 (i : Int)))] ∧ Mem w0 w [(b1, cl .u16 256 (pl n X), 26), (b2, cl .u16 256 (pl n X), 27), (b3, cl .u16 256 (pl m Y), 26), (b4, cl .u16 256 (pl m Y), 27), (b5, cl .u16 256 (upd (fun _ => 0) K 1), 26), (b6, cl .u16 256 (gone K i (pl n X)), 26)]) _ ⟨0, rfl, (by omega), hF.sub ⟨rfl, rfl, rfl, rfl, rfl, rfl, rfl, trivial⟩, ?_⟩ ?_
          · rw [gone_zero]; exact hM
          rintro _ a w ⟨i, rfl, hl1_0, hF, hM⟩
          refine wp_seq ?_
          refine wp_seq ?_
          refine wp_region_lit ?_
          refine wl (d_move rfl) rfl hF (fun a hF => ?_)
          refine wl (d_lss rfl rfl) rfl hF (fun a hF => ?_)
          refine wl_nil ?_
          have hF := hF.sub (L' := [(2, (Value.int .i64 (K : Int))), (7, (Value.pointer (some ⟨b1, 0, none⟩))), (9, (Value.pointer (some ⟨b3, 0, none⟩))), (11, (Value.func (.func 12) #[] #[])), (12, (Value.pointer (some ⟨b5, 0, none⟩))), (13, (Value.pointer (some ⟨b6, 0, none⟩))), (14, (Value.int .i64 (i : Int))), (49, (Value.bool (decide ((i : Int) < 256))))]) ⟨rfl, rfl, rfl, rfl, rfl, rfl, rfl, rfl, trivial⟩
          refine then_n ?_
          refine wp_if hF rfl (fun h => ?_) (fun h => ?_)
          · have hlt := of_decide_eq_true h
            clear h
            have hfi := hrx i (by omega)
            refine wp_skip ?_
            refine then_n ?_
            refine wp_seq ?_
            refine wp_block ?_
            refine wp_seq ?_
            refine wp_region_lit ?_
            refine wl (d_move rfl) rfl hF (fun a hF => ?_)
            refine wl (d_ixA0 (j := i) Try.underlying26 sz24 rfl rfl rfl (by omega)) rfl hF (fun a hF => ?_)
            refine wl (d_load1 Try.underlying24 rfl rfl (hM.cell 0 rfl (cl_get (by omega)))) rfl hF (fun a hF => ?_)
            refine wl (d_assign rfl) rfl hF (fun a hF => ?_)
            refine wl_nil ?_
            have hF := hF.sub (L' := [(2, (Value.int .i64 (K : Int))), (7, (Value.pointer (some ⟨b1, 0, none⟩))), (9, (Value.pointer (some ⟨b3, 0, none⟩))), (11, (Value.func (.func 12) #[] #[])), (12, (Value.pointer (some ⟨b5, 0, none⟩))), (13, (Value.pointer (some ⟨b6, 0, none⟩))), (14, (Value.int .i64 (i : Int))), (15, (Value.int .u16 ((pl n X) i))), (49, (Value.bool (decide ((i : Int) < 256))))]) ⟨rfl, rfl, rfl, rfl, rfl, rfl, rfl, rfl, rfl, trivial⟩
            refine then_n ?_
            refine wp_seq ?_
            refine wp_seq ?_
            refine wp_region_lit ?_
            refine wl (d_move rfl) rfl hF (fun a hF => ?_)
            refine wl (d_move rfl) rfl hF (fun a hF => ?_)
            refine wl (d_add rfl rfl (wrap_i64 (by omega) (by omega))) rfl hF (fun a hF => ?_)
            refine wl (d_geq rfl rfl) rfl hF (fun a hF => ?_)
            refine wl (d_move rfl) rfl hF (fun a hF => ?_)
            by_cases hge : 256 ≤ ((i : Int) + (K : Int))
            · have hdec_ : decide (256 ≤ ((i : Int) + (K : Int))) = true := decide_eq_true hge
              rw [hdec_] at hF
              refine wlg rfl (d_move rfl) rfl hF (fun a hF => ?_)
              refine wlg rfl (d_neq rfl rfl) rfl hF (fun a hF => ?_)
              refine wl (d_pick (b := true) rfl rfl) rfl hF (fun a hF => ?_)
              refine wl_nil ?_
              have hF := hF.sub (L' := [(2, (Value.int .i64 (K : Int))), (7, (Value.pointer (some ⟨b1, 0, none⟩))), (9, (Value.pointer (some ⟨b3, 0, none⟩))), (11, (Value.func (.func 12) #[] #[])), (12, (Value.pointer (some ⟨b5, 0, none⟩))), (13, (Value.pointer (some ⟨b6, 0, none⟩))), (14, (Value.int .i64 (i : Int))), (15, (Value.int .u16 ((pl n X) i))), (49, (Value.bool (decide ((i : Int) < 256)))), (62, (Value.bool (!decide ((pl n X) i = 0))))]) ⟨rfl, rfl, rfl, rfl, rfl, rfl, rfl, rfl, rfl, rfl, trivial⟩
              refine then_n ?_
              refine wp_if hF rfl (fun h => ?_) (fun h => ?_)
              · have hv0 := ndec_true h
                clear h
                refine wp_region_lit ?_
                refine wl (d_move rfl) rfl hF (fun a hF => ?_)
                refine wl (d_sub rfl rfl (wrap_u16 (by omega) (by omega))) rfl hF (fun a hF => ?_)
                refine wl (d_assign rfl) rfl hF (fun a hF => ?_)
                refine wl_nil ?_
                have hF := hF.sub (L' := [(2, (Value.int .i64 (K : Int))), (7, (Value.pointer (some ⟨b1, 0, none⟩))), (9, (Value.pointer (some ⟨b3, 0, none⟩))), (11, (Value.func (.func 12) #[] #[])), (12, (Value.pointer (some ⟨b5, 0, none⟩))), (13, (Value.pointer (some ⟨b6, 0, none⟩))), (14, (Value.int .i64 (i : Int))), (15, (Value.int .u16 (3329 - (pl n X) i))), (49, (Value.bool (decide ((i : Int) < 256)))), (62, (Value.bool (!decide ((pl n X) i = 0))))]) ⟨rfl, rfl, rfl, rfl, rfl, rfl, rfl, rfl, rfl, rfl, trivial⟩
                refine then_n ?_
                refine wp_region_lit ?_
                refine wl (d_move rfl) rfl hF (fun a hF => ?_)
                refine wl (d_move rfl) rfl hF (fun a hF => ?_)
                refine wl (d_add rfl rfl (wrap_i64 (by omega) (by omega))) rfl hF (fun a hF => ?_)
                refine wl (d_rem rfl rfl (by omega) (tmod_pos (by omega))) rfl hF (fun a hF => ?_)
                refine wl (d_move rfl) rfl hF (fun a hF => ?_)
                refine wl (d_ixA0 (j := (i + K) % 256) Try.underlying26 sz24 rfl rfl (by omega) (by omega)) rfl hF (fun a hF => ?_)
                refine wl0R (ok_store1 (v := (Value.int .u16 (3329 - (pl n X) i))) sz24 rfl rfl rfl (hM.at 5 rfl) (by rw [cl_size]; omega)) hF ?_
                rintro w a hu hF
                rw [cl_set] at hu
                have hM : Mem w0 w [(b1, cl .u16 256 (pl n X), 26), (b2, cl .u16 256 (pl n X), 27), (b3, cl .u16 256 (pl m Y), 26), (b4, cl .u16 256 (pl m Y), 27), (b5, cl .u16 256 (upd (fun _ => 0) K 1), 26), (b6, cl .u16 256 (upd (gone K i (pl n X)) ((i + K) % 256) (3329 - (pl n X) i)), 26)] := hM.upd 5 rfl hu
                refine wl_nil ?_
                have hF := hF.sub (L' := [(2, (Value.int .i64 (K : Int))), (7, (Value.pointer (some ⟨b1, 0, none⟩))), (9, (Value.pointer (some ⟨b3, 0, none⟩))), (11, (Value.func (.func 12) #[] #[])), (12, (Value.pointer (some ⟨b5, 0, none⟩))), (13, (Value.pointer (some ⟨b6, 0, none⟩))), (14, (Value.int .i64 (i : Int))), (15, (Value.int .u16 (3329 - (pl n X) i))), (49, (Value.bool (decide ((i : Int) < 256)))), (62, (Value.bool (!decide ((pl n X) i = 0))))]) ⟨rfl, rfl, rfl, rfl, rfl, rfl, rfl, rfl, rfl, rfl, trivial⟩
                refine block_n ?_
                refine then_n ?_
                refine wp_region_lit ?_
                refine wl (d_move rfl) rfl hF (fun a hF => ?_)
                refine wl (d_add rfl rfl (wrap_i64 (by omega) (by omega))) rfl hF (fun a hF => ?_)
                refine wl (d_assign rfl) rfl hF (fun a hF => ?_)
                refine wl_nil ?_
                have hF := hF.sub (L' := [(2, (Value.int .i64 (K : Int))), (7, (Value.pointer (some ⟨b1, 0, none⟩))), (9, (Value.pointer (some ⟨b3, 0, none⟩))), (11, (Value.func (.func 12) #[] #[])), (12, (Value.pointer (some ⟨b5, 0, none⟩))), (13, (Value.pointer (some ⟨b6, 0, none⟩))), (14, (Value.int .i64 ((i : Int) + 1))), (15, (Value.int .u16 (3329 - (pl n X) i))), (49, (Value.bool (decide ((i : Int) < 256)))), (62, (Value.bool (!decide ((pl n X) i = 0))))]) ⟨rfl, rfl, rfl, rfl, rfl, rfl, rfl, rfl, rfl, rfl, trivial⟩
                refine then_n ?_
                refine ⟨_, ?_, i + 1, rfl, (by omega), hF.sub ⟨rfl, rfl, rfl, rfl, rfl, rfl, rfl, trivial⟩, ?_⟩
                · omega
                rw [gone_step hK2 (by omega) (by first | rw [if_pos (by omega), if_neg hv0] | (rw [if_pos (by omega), if_pos hv0]; exact hv0) | rw [if_neg (by omega)])] at hM
                exact hM
              · have hv0 := ndec_false h
                clear h
                refine wp_skip ?_
                refine then_n ?_
                refine wp_region_lit ?_
                refine wl (d_move rfl) rfl hF (fun a hF => ?_)
                refine wl (d_move rfl) rfl hF (fun a hF => ?_)
                refine wl (d_add rfl rfl (wrap_i64 (by omega) (by omega))) rfl hF (fun a hF => ?_)
                refine wl (d_rem rfl rfl (by omega) (tmod_pos (by omega))) rfl hF (fun a hF => ?_)
                refine wl (d_move rfl) rfl hF (fun a hF => ?_)
                refine wl (d_ixA0 (j := (i + K) % 256) Try.underlying26 sz24 rfl rfl (by omega) (by omega)) rfl hF (fun a hF => ?_)
                refine wl0R (ok_store1 (v := (Value.int .u16 ((pl n X) i))) sz24 rfl rfl rfl (hM.at 5 rfl) (by rw [cl_size]; omega)) hF ?_
                rintro w a hu hF
                rw [cl_set] at hu
                have hM : Mem w0 w [(b1, cl .u16 256 (pl n X), 26), (b2, cl .u16 256 (pl n X), 27), (b3, cl .u16 256 (pl m Y), 26), (b4, cl .u16 256 (pl m Y), 27), (b5, cl .u16 256 (upd (fun _ => 0) K 1), 26), (b6, cl .u16 256 (upd (gone K i (pl n X)) ((i + K) % 256) ((pl n X) i)), 26)] := hM.upd 5 rfl hu
                refine wl_nil ?_
                have hF := hF.sub (L' := [(2, (Value.int .i64 (K : Int))), (7, (Value.pointer (some ⟨b1, 0, none⟩))), (9, (Value.pointer (some ⟨b3, 0, none⟩))), (11, (Value.func (.func 12) #[] #[])), (12, (Value.pointer (some ⟨b5, 0, none⟩))), (13, (Value.pointer (some ⟨b6, 0, none⟩))), (14, (Value.int .i64 (i : Int))), (15, (Value.int .u16 ((pl n X) i))), (49, (Value.bool (decide ((i : Int) < 256)))), (62, (Value.bool (!decide ((pl n X) i = 0))))]) ⟨rfl, rfl, rfl, rfl, rfl, rfl, rfl, rfl, rfl, rfl, trivial⟩
                refine block_n ?_
                refine then_n ?_
                refine wp_region_lit ?_
                refine wl (d_move rfl) rfl hF (fun a hF => ?_)
                refine wl (d_add rfl rfl (wrap_i64 (by omega) (by omega))) rfl hF (fun a hF => ?_)
                refine wl (d_assign rfl) rfl hF (fun a hF => ?_)
                refine wl_nil ?_
                have hF := hF.sub (L' := [(2, (Value.int .i64 (K : Int))), (7, (Value.pointer (some ⟨b1, 0, none⟩))), (9, (Value.pointer (some ⟨b3, 0, none⟩))), (11, (Value.func (.func 12) #[] #[])), (12, (Value.pointer (some ⟨b5, 0, none⟩))), (13, (Value.pointer (some ⟨b6, 0, none⟩))), (14, (Value.int .i64 ((i : Int) + 1))), (15, (Value.int .u16 ((pl n X) i))), (49, (Value.bool (decide ((i : Int) < 256)))), (62, (Value.bool (!decide ((pl n X) i = 0))))]) ⟨rfl, rfl, rfl, rfl, rfl, rfl, rfl, rfl, rfl, rfl, trivial⟩
                refine then_n ?_
                refine ⟨_, ?_, i + 1, rfl, (by omega), hF.sub ⟨rfl, rfl, rfl, rfl, rfl, rfl, rfl, trivial⟩, ?_⟩
                · omega
                rw [gone_step hK2 (by omega) (by first | rw [if_pos (by omega), if_neg hv0] | (rw [if_pos (by omega), if_pos hv0]; exact hv0) | rw [if_neg (by omega)])] at hM
                exact hM
            · have hdec_ : decide (256 ≤ ((i : Int) + (K : Int))) = false := decide_eq_false hge
              rw [hdec_] at hF
              refine wlgs (c := false) rfl rfl rfl hF (fun a hF => ?_)
              refine wlgs (c := false) rfl rfl rfl hF (fun a hF => ?_)
              refine wl (d_pick (b := false) rfl rfl) rfl hF (fun a hF => ?_)
              refine wl_nil ?_
              have hF := hF.sub (L' := [(2, (Value.int .i64 (K : Int))), (7, (Value.pointer (some ⟨b1, 0, none⟩))), (9, (Value.pointer (some ⟨b3, 0, none⟩))), (11, (Value.func (.func 12) #[] #[])), (12, (Value.pointer (some ⟨b5, 0, none⟩))), (13, (Value.pointer (some ⟨b6, 0, none⟩))), (14, (Value.int .i64 (i : Int))), (15, (Value.int .u16 ((pl n X) i))), (49, (Value.bool (decide ((i : Int) < 256)))), (62, (Value.bool false))]) ⟨rfl, rfl, rfl, rfl, rfl, rfl, rfl, rfl, rfl, rfl, trivial⟩
              refine then_n ?_
              refine wp_cond_false (hF.eval rfl) ?_
              refine wp_skip ?_
              refine then_n ?_
              refine wp_region_lit ?_
              refine wl (d_move rfl) rfl hF (fun a hF => ?_)
              refine wl (d_move rfl) rfl hF (fun a hF => ?_)
              refine wl (d_add rfl rfl (wrap_i64 (by omega) (by omega))) rfl hF (fun a hF => ?_)
              refine wl (d_rem rfl rfl (by omega) (tmod_pos (by omega))) rfl hF (fun a hF => ?_)
              refine wl (d_move rfl) rfl hF (fun a hF => ?_)
              refine wl (d_ixA0 (j := (i + K) % 256) Try.underlying26 sz24 rfl rfl (by omega) (by omega)) rfl hF (fun a hF => ?_)
              refine wl0R (ok_store1 (v := (Value.int .u16 ((pl n X) i))) sz24 rfl rfl rfl (hM.at 5 rfl) (by rw [cl_size]; omega)) hF ?_
              rintro w a hu hF
              rw [cl_set] at hu
              have hM : Mem w0 w [(b1, cl .u16 256 (pl n X), 26), (b2, cl .u16 256 (pl n X), 27), (b3, cl .u16 256 (pl m Y), 26), (b4, cl .u16 256 (pl m Y), 27), (b5, cl .u16 256 (upd (fun _ => 0) K 1), 26), (b6, cl .u16 256 (upd (gone K i (pl n X)) ((i + K) % 256) ((pl n X) i)), 26)] := hM.upd 5 rfl hu
              refine wl_nil ?_
              have hF := hF.sub (L' := [(2, (Value.int .i64 (K : Int))), (7, (Value.pointer (some ⟨b1, 0, none⟩))), (9, (Value.pointer (some ⟨b3, 0, none⟩))), (11, (Value.func (.func 12) #[] #[])), (12, (Value.pointer (some ⟨b5, 0, none⟩))), (13, (Value.pointer (some ⟨b6, 0, none⟩))), (14, (Value.int .i64 (i : Int))), (15, (Value.int .u16 ((pl n X) i))), (49, (Value.bool (decide ((i : Int) < 256)))), (62, (Value.bool false))]) ⟨rfl, rfl, rfl, rfl, rfl, rfl, rfl, rfl, rfl, rfl, trivial⟩
              refine block_n ?_
              refine then_n ?_
              refine wp_region_lit ?_
              refine wl (d_move rfl) rfl hF (fun a hF => ?_)
              refine wl (d_add rfl rfl (wrap_i64 (by omega) (by omega))) rfl hF (fun a hF => ?_)
              refine wl (d_assign rfl) rfl hF (fun a hF => ?_)
              refine wl_nil ?_
              have hF := hF.sub (L' := [(2, (Value.int .i64 (K : Int))), (7, (Value.pointer (some ⟨b1, 0, none⟩))), (9, (Value.pointer (some ⟨b3, 0, none⟩))), (11, (Value.func (.func 12) #[] #[])), (12, (Value.pointer (some ⟨b5, 0, none⟩))), (13, (Value.pointer (some ⟨b6, 0, none⟩))), (14, (Value.int .i64 ((i : Int) + 1))), (15, (Value.int .u16 ((pl n X) i))), (49, (Value.bool (decide ((i : Int) < 256)))), (62, (Value.bool false))]) ⟨rfl, rfl, rfl, rfl, rfl, rfl, rfl, rfl, rfl, rfl, trivial⟩
              refine then_n ?_
              refine ⟨_, ?_, i + 1, rfl, (by omega), hF.sub ⟨rfl, rfl, rfl, rfl, rfl, rfl, rfl, trivial⟩, ?_⟩
              · omega
              rw [gone_step hK2 (by omega) (by first | rw [if_pos (by omega), if_neg hv0] | (rw [if_pos (by omega), if_pos hv0]; exact hv0) | rw [if_neg (by omega)])] at hM
              exact hM
          · have hlt := of_decide_eq_false h
            clear h
            have hi : i = 256 := by omega
            rw [hi] at hM
            refine wp_exit ?_
            refine then_exit ?_
            refine then_exit ?_
            refine block_exit ?_
            refine then_n ?_
            refine wp_seq ?_
            refine region_plan Tt mo (fun ph_ w => Mem w0 w (([[(b1, cl .u16 256 (pl n X), 26), (b2, cl .u16 256 (pl n X), 27), (b3, cl .u16 256 (pl m Y), 26), (b4, cl .u16 256 (pl m Y), 27), (b5, cl .u16 256 (upd (fun _ => 0) K 1), 26), (b6, cl .u16 256 (gone K 256 (pl n X)), 26)]] : List (List Blk)).getD ph_ [])) [] (rows := [⟨[], [(11, (Value.func (.func 12) #[] #[]))], [0], .val (Value.func (.func 12) #[] #[])⟩, ⟨[], [(7, (Value.pointer (some ⟨b1, 0, none⟩)))], [0], .val (Value.agg (cl .u16 256 (pl n X)))⟩, ⟨[], [(9, (Value.pointer (some ⟨b3, 0, none⟩)))], [0], .val (Value.agg (cl .u16 256 (pl m Y)))⟩, ⟨[(1, 72), (2, 73)], [], [0], .val (Value.agg (cl .u16 256 (sSub (pl n X) (pl m Y))))⟩, ⟨[(0, 71), (3, 74)], [], [0], .val (Value.agg (cl .u16 256 (sNTT (sSub (pl n X) (pl m Y)))))⟩, ⟨[], [(11, (Value.func (.func 12) #[] #[]))], [0], .val (Value.func (.func 12) #[] #[])⟩, ⟨[], [(7, (Value.pointer (some ⟨b1, 0, none⟩)))], [0], .val (Value.agg (cl .u16 256 (pl n X)))⟩, ⟨[(5, 76), (6, 77)], [], [0], .val (Value.agg (cl .u16 256 (sNTT (pl n X))))⟩, ⟨[], [(11, (Value.func (.func 12) #[] #[]))], [0], .val (Value.func (.func 12) #[] #[])⟩, ⟨[], [(9, (Value.pointer (some ⟨b3, 0, none⟩)))], [0], .val (Value.agg (cl .u16 256 (pl m Y)))⟩, ⟨[(8, 79), (9, 80)], [], [0], .val (Value.agg (cl .u16 256 (sNTT (pl m Y))))⟩, ⟨[(7, 78), (10, 81)], [], [0], .val (Value.agg (cl .u16 256 (sSub (sNTT (pl n X)) (sNTT (pl m Y)))))⟩, ⟨[(4, 75), (11, 82)], [], [0], .val (Value.bool true)⟩, ⟨[(12, 83)], [], [0], .val (Value.bool true)⟩, ⟨[(13, 84)], [(11, (Value.func (.func 12) #[] #[]))], [0], .val (Value.func (.func 12) #[] #[])⟩, ⟨[(13, 84)], [(7, (Value.pointer (some ⟨b1, 0, none⟩)))], [0], .val (Value.agg (cl .u16 256 (pl n X)))⟩, ⟨[(14, 85), (15, 86), (13, 84)], [], [0], .val (Value.agg (cl .u16 256 (sNTT (pl n X))))⟩, ⟨[(13, 84)], [(11, (Value.func (.func 12) #[] #[]))], [0], .val (Value.func (.func 12) #[] #[])⟩, ⟨[(13, 84)], [(9, (Value.pointer (some ⟨b3, 0, none⟩)))], [0], .val (Value.agg (cl .u16 256 (pl m Y)))⟩, ⟨[(17, 88), (18, 89), (13, 84)], [], [0], .val (Value.agg (cl .u16 256 (sNTT (pl m Y))))⟩, ⟨[(16, 87), (19, 90), (13, 84)], [], [0], .val (Value.agg (cl .u16 256 (sMul (sNTT (pl n X)) (sNTT (pl m Y)))))⟩, ⟨[(13, 84)], [(11, (Value.func (.func 12) #[] #[]))], [0], .val (Value.func (.func 12) #[] #[])⟩, ⟨[(13, 84)], [(9, (Value.pointer (some ⟨b3, 0, none⟩)))], [0], .val (Value.agg (cl .u16 256 (pl m Y)))⟩, ⟨[(21, 92), (22, 93), (13, 84)], [], [0], .val (Value.agg (cl .u16 256 (sNTT (pl m Y))))⟩, ⟨[(13, 84)], [(11, (Value.func (.func 12) #[] #[]))], [0], .val (Value.func (.func 12) #[] #[])⟩, ⟨[(13, 84)], [(7, (Value.pointer (some ⟨b1, 0, none⟩)))], [0], .val (Value.agg (cl .u16 256 (pl n X)))⟩, ⟨[(24, 95), (25, 96), (13, 84)], [], [0], .val (Value.agg (cl .u16 256 (sNTT (pl n X))))⟩, ⟨[(23, 94), (26, 97), (13, 84)], [], [0], .val (Value.agg (cl .u16 256 (sMul (sNTT (pl m Y)) (sNTT (pl n X)))))⟩, ⟨[(20, 91), (27, 98), (13, 84)], [], [0], .val (Value.bool true)⟩, ⟨[(13, 84), (28, 99)], [], [0], .val (Value.bool true)⟩, ⟨[(29, 100)], [], [0], .val (Value.bool true)⟩, ⟨[(30, 101)], [(11, (Value.func (.func 12) #[] #[]))], [0], .val (Value.func (.func 12) #[] #[])⟩, ⟨[(30, 101)], [(7, (Value.pointer (some ⟨b1, 0, none⟩)))], [0], .val (Value.agg (cl .u16 256 (pl n X)))⟩, ⟨[(31, 102), (32, 103), (30, 101)], [], [0], .val (Value.agg (cl .u16 256 (sNTT (pl n X))))⟩, ⟨[(30, 101)], [(11, (Value.func (.func 12) #[] #[]))], [0], .val (Value.func (.func 12) #[] #[])⟩, ⟨[(30, 101)], [(12, (Value.pointer (some ⟨b5, 0, none⟩)))], [0], .val (Value.agg (cl .u16 256 (upd (fun _ => 0) K 1)))⟩, ⟨[(34, 105), (35, 106), (30, 101)], [], [0], .val (Value.agg (cl .u16 256 (sNTT (upd (fun _ => 0) K 1))))⟩, ⟨[(33, 104), (36, 107), (30, 101)], [], [0], .val (Value.agg (cl .u16 256 (sMul (sNTT (pl n X)) (sNTT (upd (fun _ => 0) K 1)))))⟩, ⟨[(37, 108), (30, 101)], [], [0], .val (Value.agg (cl .u16 256 (sInv (sMul (sNTT (pl n X)) (sNTT (upd (fun _ => 0) K 1))))))⟩, ⟨[(30, 101)], [(13, (Value.pointer (some ⟨b6, 0, none⟩)))], [0], .val (Value.agg (cl .u16 256 (gone K 256 (pl n X))))⟩, ⟨[(38, 109), (39, 110), (30, 101)], [], [0], .val (Value.bool true)⟩, ⟨[(30, 101), (40, 111)], [], [0], .val (Value.bool true)⟩, ⟨[(41, 112)], [], [0], .val (Value.bool true)⟩, ⟨[(42, 113)], [], [0], .val (Value.bool true)⟩, ⟨[(42, 113), (43, 114)], [], [0], .val (Value.bool true)⟩, ⟨[(44, 115)], [], [0], .val (Value.bool true)⟩]) (by kernel_rfl) hF hM.drew ?_ ?_
            · refine ⟨?_, ?_, ?_, ?_, ?_, ?_, ?_, ?_, ?_, ?_, ?_, ?_, ?_, ?_, ?_, ?_, ?_, ?_, ?_, ?_, ?_, ?_, ?_, ?_, ?_, ?_, ?_, ?_, ?_, ?_, ?_, ?_, ?_, ?_, ?_, ?_, ?_, ?_, ?_, ?_, ?_, ?_, ?_, ?_, ?_, ?_, trivial⟩
              · exact ⟨⟨rfl, trivial⟩, fun ph_ _ vs w hW _ => Det.ob hW (d_move rfl)⟩
              · refine ⟨⟨rfl, trivial⟩, fun ph_ hp_ vs w hW _ => ?_⟩
                obtain rfl := memN_one hp_
                have hM : Mem w0 w [(b1, cl .u16 256 (pl n X), 26), (b2, cl .u16 256 (pl n X), 27), (b3, cl .u16 256 (pl m Y), 26), (b4, cl .u16 256 (pl m Y), 27), (b5, cl .u16 256 (upd (fun _ => 0) K 1), 26), (b6, cl .u16 256 (gone K 256 (pl n X)), 26)] := hW
                exact Det.ob hW (d_loadA Try.underlying26 rfl sz26 rfl (hM.at 0 rfl) (cl_size _ _ _))
              · refine ⟨⟨rfl, trivial⟩, fun ph_ hp_ vs w hW _ => ?_⟩
                obtain rfl := memN_one hp_
                have hM : Mem w0 w [(b1, cl .u16 256 (pl n X), 26), (b2, cl .u16 256 (pl n X), 27), (b3, cl .u16 256 (pl m Y), 26), (b4, cl .u16 256 (pl m Y), 27), (b5, cl .u16 256 (upd (fun _ => 0) K 1), 26), (b6, cl .u16 256 (gone K 256 (pl n X)), 26)] := hW
                exact Det.ob hW (d_loadA Try.underlying26 rfl sz26 rfl (hM.at 2 rfl) (cl_size _ _ _))
              · exact ⟨trivial, fun ph_ _ vs w hW _ => Ok1.obc (fun w' g => Mem.call hW g) (ok_call c20 rfl (Sub_calls (pl_u hxa) (pl_u hxb) _))⟩
              · exact ⟨trivial, fun ph_ _ vs w hW _ => Ok1.obc (fun w' g => Mem.call hW g) (ok_callv (first := #[]) (captured := #[]) rfl c12 rfl (NTT_calls (sSub_red _ _).u _))⟩
              · exact ⟨⟨rfl, trivial⟩, fun ph_ _ vs w hW _ => Det.ob hW (d_move rfl)⟩
              · refine ⟨⟨rfl, trivial⟩, fun ph_ hp_ vs w hW _ => ?_⟩
                obtain rfl := memN_one hp_
                have hM : Mem w0 w [(b1, cl .u16 256 (pl n X), 26), (b2, cl .u16 256 (pl n X), 27), (b3, cl .u16 256 (pl m Y), 26), (b4, cl .u16 256 (pl m Y), 27), (b5, cl .u16 256 (upd (fun _ => 0) K 1), 26), (b6, cl .u16 256 (gone K 256 (pl n X)), 26)] := hW
                exact Det.ob hW (d_loadA Try.underlying26 rfl sz26 rfl (hM.at 0 rfl) (cl_size _ _ _))
              · exact ⟨trivial, fun ph_ _ vs w hW _ => Ok1.obc (fun w' g => Mem.call hW g) (ok_callv (first := #[]) (captured := #[]) rfl c12 rfl (NTT_calls (pl_u hxa) _))⟩
              · exact ⟨⟨rfl, trivial⟩, fun ph_ _ vs w hW _ => Det.ob hW (d_move rfl)⟩
              · refine ⟨⟨rfl, trivial⟩, fun ph_ hp_ vs w hW _ => ?_⟩
                obtain rfl := memN_one hp_
                have hM : Mem w0 w [(b1, cl .u16 256 (pl n X), 26), (b2, cl .u16 256 (pl n X), 27), (b3, cl .u16 256 (pl m Y), 26), (b4, cl .u16 256 (pl m Y), 27), (b5, cl .u16 256 (upd (fun _ => 0) K 1), 26), (b6, cl .u16 256 (gone K 256 (pl n X)), 26)] := hW
                exact Det.ob hW (d_loadA Try.underlying26 rfl sz26 rfl (hM.at 2 rfl) (cl_size _ _ _))
              · exact ⟨trivial, fun ph_ _ vs w hW _ => Ok1.obc (fun w' g => Mem.call hW g) (ok_callv (first := #[]) (captured := #[]) rfl c12 rfl (NTT_calls (pl_u hxb) _))⟩
              · exact ⟨trivial, fun ph_ _ vs w hW _ => Ok1.obc (fun w' g => Mem.call hW g) (ok_call c20 rfl (Sub_calls (sNTT_red _).u (sNTT_red _).u _))⟩
              · exact ⟨trivial, fun ph_ _ vs w hW _ => Det.ob hW (d_eqlA Try.underlying26 Try.underlying24 sz24 (by kernel_rfl) rfl rfl (fun i hi => sNTT_sub _ _ hi))⟩
              · exact ⟨trivial, fun ph_ _ vs w hW _ => Det.ob hW (d_move rfl)⟩
              · exact ⟨⟨rfl, trivial⟩, fun ph_ _ vs w hW _ => ⟨true, _, rfl, rfl, Det.ob hW (d_move rfl)⟩⟩
              · refine ⟨⟨rfl, trivial⟩, fun ph_ hp_ vs w hW _ => ?_⟩
                obtain rfl := memN_one hp_
                have hM : Mem w0 w [(b1, cl .u16 256 (pl n X), 26), (b2, cl .u16 256 (pl n X), 27), (b3, cl .u16 256 (pl m Y), 26), (b4, cl .u16 256 (pl m Y), 27), (b5, cl .u16 256 (upd (fun _ => 0) K 1), 26), (b6, cl .u16 256 (gone K 256 (pl n X)), 26)] := hW
                exact ⟨true, _, rfl, rfl, Det.ob hW (d_loadA Try.underlying26 rfl sz26 rfl (hM.at 0 rfl) (cl_size _ _ _))⟩
              · exact ⟨trivial, fun ph_ _ vs w hW _ => ⟨true, _, rfl, rfl, Ok1.obc (fun w' g => Mem.call hW g) (ok_callv (first := #[]) (captured := #[]) rfl c12 rfl (NTT_calls (pl_u hxa) _))⟩⟩
              · exact ⟨⟨rfl, trivial⟩, fun ph_ _ vs w hW _ => ⟨true, _, rfl, rfl, Det.ob hW (d_move rfl)⟩⟩
              · refine ⟨⟨rfl, trivial⟩, fun ph_ hp_ vs w hW _ => ?_⟩
                obtain rfl := memN_one hp_
                have hM : Mem w0 w [(b1, cl .u16 256 (pl n X), 26), (b2, cl .u16 256 (pl n X), 27), (b3, cl .u16 256 (pl m Y), 26), (b4, cl .u16 256 (pl m Y), 27), (b5, cl .u16 256 (upd (fun _ => 0) K 1), 26), (b6, cl .u16 256 (gone K 256 (pl n X)), 26)] := hW
                exact ⟨true, _, rfl, rfl, Det.ob hW (d_loadA Try.underlying26 rfl sz26 rfl (hM.at 2 rfl) (cl_size _ _ _))⟩
              · exact ⟨trivial, fun ph_ _ vs w hW _ => ⟨true, _, rfl, rfl, Ok1.obc (fun w' g => Mem.call hW g) (ok_callv (first := #[]) (captured := #[]) rfl c12 rfl (NTT_calls (pl_u hxb) _))⟩⟩
              · exact ⟨trivial, fun ph_ _ vs w hW _ => ⟨true, _, rfl, rfl, Ok1.obc (fun w' g => Mem.call hW g) (ok_call c15 rfl (Mul_calls (sNTT_red _).u (sNTT_red _).u _))⟩⟩
              · exact ⟨⟨rfl, trivial⟩, fun ph_ _ vs w hW _ => ⟨true, _, rfl, rfl, Det.ob hW (d_move rfl)⟩⟩
              · refine ⟨⟨rfl, trivial⟩, fun ph_ hp_ vs w hW _ => ?_⟩
                obtain rfl := memN_one hp_
                have hM : Mem w0 w [(b1, cl .u16 256 (pl n X), 26), (b2, cl .u16 256 (pl n X), 27), (b3, cl .u16 256 (pl m Y), 26), (b4, cl .u16 256 (pl m Y), 27), (b5, cl .u16 256 (upd (fun _ => 0) K 1), 26), (b6, cl .u16 256 (gone K 256 (pl n X)), 26)] := hW
                exact ⟨true, _, rfl, rfl, Det.ob hW (d_loadA Try.underlying26 rfl sz26 rfl (hM.at 2 rfl) (cl_size _ _ _))⟩
              · exact ⟨trivial, fun ph_ _ vs w hW _ => ⟨true, _, rfl, rfl, Ok1.obc (fun w' g => Mem.call hW g) (ok_callv (first := #[]) (captured := #[]) rfl c12 rfl (NTT_calls (pl_u hxb) _))⟩⟩
              · exact ⟨⟨rfl, trivial⟩, fun ph_ _ vs w hW _ => ⟨true, _, rfl, rfl, Det.ob hW (d_move rfl)⟩⟩
              · refine ⟨⟨rfl, trivial⟩, fun ph_ hp_ vs w hW _ => ?_⟩
                obtain rfl := memN_one hp_
                have hM : Mem w0 w [(b1, cl .u16 256 (pl n X), 26), (b2, cl .u16 256 (pl n X), 27), (b3, cl .u16 256 (pl m Y), 26), (b4, cl .u16 256 (pl m Y), 27), (b5, cl .u16 256 (upd (fun _ => 0) K 1), 26), (b6, cl .u16 256 (gone K 256 (pl n X)), 26)] := hW
                exact ⟨true, _, rfl, rfl, Det.ob hW (d_loadA Try.underlying26 rfl sz26 rfl (hM.at 0 rfl) (cl_size _ _ _))⟩
              · exact ⟨trivial, fun ph_ _ vs w hW _ => ⟨true, _, rfl, rfl, Ok1.obc (fun w' g => Mem.call hW g) (ok_callv (first := #[]) (captured := #[]) rfl c12 rfl (NTT_calls (pl_u hxa) _))⟩⟩
              · exact ⟨trivial, fun ph_ _ vs w hW _ => ⟨true, _, rfl, rfl, Ok1.obc (fun w' g => Mem.call hW g) (ok_call c15 rfl (Mul_calls (sNTT_red _).u (sNTT_red _).u _))⟩⟩
              · exact ⟨trivial, fun ph_ _ vs w hW _ => ⟨true, _, rfl, rfl, Det.ob hW (d_eqlA Try.underlying26 Try.underlying24 sz24 (by kernel_rfl) rfl rfl (fun i _ => sMul_comm _ _ i))⟩⟩
              · exact ⟨trivial, fun ph_ _ vs w hW _ => Det.ob hW (d_pick (b := true) rfl rfl)⟩
              · exact ⟨trivial, fun ph_ _ vs w hW _ => Det.ob hW (d_move rfl)⟩
              · exact ⟨⟨rfl, trivial⟩, fun ph_ _ vs w hW _ => ⟨true, _, rfl, rfl, Det.ob hW (d_move rfl)⟩⟩
              · refine ⟨⟨rfl, trivial⟩, fun ph_ hp_ vs w hW _ => ?_⟩
                obtain rfl := memN_one hp_
                have hM : Mem w0 w [(b1, cl .u16 256 (pl n X), 26), (b2, cl .u16 256 (pl n X), 27), (b3, cl .u16 256 (pl m Y), 26), (b4, cl .u16 256 (pl m Y), 27), (b5, cl .u16 256 (upd (fun _ => 0) K 1), 26), (b6, cl .u16 256 (gone K 256 (pl n X)), 26)] := hW
                exact ⟨true, _, rfl, rfl, Det.ob hW (d_loadA Try.underlying26 rfl sz26 rfl (hM.at 0 rfl) (cl_size _ _ _))⟩
              · exact ⟨trivial, fun ph_ _ vs w hW _ => ⟨true, _, rfl, rfl, Ok1.obc (fun w' g => Mem.call hW g) (ok_callv (first := #[]) (captured := #[]) rfl c12 rfl (NTT_calls (pl_u hxa) _))⟩⟩
              · exact ⟨⟨rfl, trivial⟩, fun ph_ _ vs w hW _ => ⟨true, _, rfl, rfl, Det.ob hW (d_move rfl)⟩⟩
              · refine ⟨⟨rfl, trivial⟩, fun ph_ hp_ vs w hW _ => ?_⟩
                obtain rfl := memN_one hp_
                have hM : Mem w0 w [(b1, cl .u16 256 (pl n X), 26), (b2, cl .u16 256 (pl n X), 27), (b3, cl .u16 256 (pl m Y), 26), (b4, cl .u16 256 (pl m Y), 27), (b5, cl .u16 256 (upd (fun _ => 0) K 1), 26), (b6, cl .u16 256 (gone K 256 (pl n X)), 26)] := hW
                exact ⟨true, _, rfl, rfl, Det.ob hW (d_loadA Try.underlying26 rfl sz26 rfl (hM.at 4 rfl) (cl_size _ _ _))⟩
              · exact ⟨trivial, fun ph_ _ vs w hW _ => ⟨true, _, rfl, rfl, Ok1.obc (fun w' g => Mem.call hW g) (ok_callv (first := #[]) (captured := #[]) rfl c12 rfl (NTT_calls hus _))⟩⟩
              · exact ⟨trivial, fun ph_ _ vs w hW _ => ⟨true, _, rfl, rfl, Ok1.obc (fun w' g => Mem.call hW g) (ok_call c15 rfl (Mul_calls (sNTT_red _).u (sNTT_red _).u _))⟩⟩
              · exact ⟨trivial, fun ph_ _ vs w hW _ => ⟨true, _, rfl, rfl, Ok1.obc (fun w' g => Mem.call hW g) (ok_call c14 rfl (Inverse_calls (sMul_red _ _).u _))⟩⟩
              · refine ⟨⟨rfl, trivial⟩, fun ph_ hp_ vs w hW _ => ?_⟩
                obtain rfl := memN_one hp_
                have hM : Mem w0 w [(b1, cl .u16 256 (pl n X), 26), (b2, cl .u16 256 (pl n X), 27), (b3, cl .u16 256 (pl m Y), 26), (b4, cl .u16 256 (pl m Y), 27), (b5, cl .u16 256 (upd (fun _ => 0) K 1), 26), (b6, cl .u16 256 (gone K 256 (pl n X)), 26)] := hW
                exact ⟨true, _, rfl, rfl, Det.ob hW (d_loadA Try.underlying26 rfl sz26 rfl (hM.at 5 rfl) (cl_size _ _ _))⟩
              · exact ⟨trivial, fun ph_ _ vs w hW _ => ⟨true, _, rfl, rfl, Det.ob hW (d_eqlA Try.underlying26 Try.underlying24 sz24 (by kernel_rfl) rfl rfl (fun i hi => by rw [gone_all K _ hi]; exact sInv_x hK2 hrx hS hi))⟩⟩
              · exact ⟨trivial, fun ph_ _ vs w hW _ => Det.ob hW (d_pick (b := true) rfl rfl)⟩
              · exact ⟨trivial, fun ph_ _ vs w hW _ => Det.ob hW (d_move rfl)⟩
              · exact ⟨trivial, fun ph_ _ vs w hW _ => ⟨true, _, rfl, rfl, Ok1.obc (fun w' g => Mem.call hW g) (ok_call c9 rfl (awake_calls _))⟩⟩
              · exact ⟨trivial, fun ph_ _ vs w hW _ => Det.ob hW (d_pick (b := true) rfl rfl)⟩
              · exact ⟨trivial, fun ph_ _ vs w hW _ => Det.ob hW (d_assign rfl)⟩
            · intro a w vs hW _ hF
              have hM : Mem w0 w [(b1, cl .u16 256 (pl n X), 26), (b2, cl .u16 256 (pl n X), 27), (b3, cl .u16 256 (pl m Y), 26), (b4, cl .u16 256 (pl m Y), 27), (b5, cl .u16 256 (upd (fun _ => 0) K 1), 26), (b6, cl .u16 256 (gone K 256 (pl n X)), 26)] := hW
              have hF := hF.sub (L' := [(2, (Value.int .i64 (K : Int))), (6, (Value.bool true)), (7, (Value.pointer (some ⟨b1, 0, none⟩))), (9, (Value.pointer (some ⟨b3, 0, none⟩))), (11, (Value.func (.func 12) #[] #[])), (12, (Value.pointer (some ⟨b5, 0, none⟩))), (13, (Value.pointer (some ⟨b6, 0, none⟩))), (14, (Value.int .i64 (i : Int))), (49, (Value.bool (decide ((i : Int) < 256))))]) ⟨rfl, rfl, rfl, rfl, rfl, rfl, rfl, rfl, rfl, trivial⟩
              refine then_n ?_
              refine wp_ret ?_
              refine body_ret hF (results1 Try.results4 (RV.tmp hF rfl)) ?_
              exact ⟨rfl, hM.below⟩
end Go.Mi.Ring
