/- Walks: what functions of ring, and of the reference, return. -/
import Derived.Test.YthnkcocemlcpgaaR0
import Derived.Test.YthnkcocemlcpgaaRf
import Derived.Test.YthnkcocemlcpgaaR1
import Derived.Test.YthnkcocemlcpgaaRb
namespace Go.Mi.Ring
open Go.Mi Go.Proofs
set_option maxRecDepth 100000 in
theorem Mul_calls {F G : Nat → Int} (hf : U16 F) (hg : U16 G) (w0 : World) : Calls Try.prog 15 (List.toArray [.agg (cl .u16 256 F), .agg (cl .u16 256 G)]) w0 (Ret fun v w' => v = .agg (cl .u16 256 (sMul F G)) ∧ Gr w0 w') := by
  refine calls_of Try.func15 rfl Try.ntmps15 rfl fun a hF => ?_
  have hM := Mem.start w0
  have hF := hF.sub (L' := [(0, (Value.agg (cl .u16 256 F))), (1, (Value.agg (cl .u16 256 G)))]) ⟨rfl, rfl, trivial⟩
  refine wp_seq ?_
  refine wp_region_lit ?_
  refine wlR (ok_box rfl) rfl hF ?_
  rintro _ w a ⟨b1, rfl, hnb_⟩ hF
  have hM : Mem w0 w [(b1, cl .u16 256 F, 26)] := hM.alloc hnb_
  refine wlR (ok_box rfl) rfl hF ?_
  rintro _ w a ⟨b2, rfl, hnb_⟩ hF
  have hM : Mem w0 w [(b1, cl .u16 256 F, 26), (b2, cl .u16 256 G, 26)] := hM.alloc hnb_
  refine wlR (ok_alloc z26) rfl hF ?_
  rintro _ w a ⟨b3, rfl, hnb_⟩ hF
  have hM : Mem w0 w [(b1, cl .u16 256 F, 26), (b2, cl .u16 256 G, 26), (b3, cl .u16 256 fun _ => 0, 26)] := hM.alloc hnb_
  refine wl_nil ?_
  have hF := hF.sub (L' := [(0, (Value.agg (cl .u16 256 F))), (1, (Value.agg (cl .u16 256 G))), (2, (Value.pointer (some ⟨b1, 0, none⟩))), (3, (Value.pointer (some ⟨b2, 0, none⟩))), (4, (Value.pointer (some ⟨b3, 0, none⟩)))]) ⟨rfl, rfl, rfl, rfl, rfl, trivial⟩
  refine then_n ?_
  refine wp_seq ?_
  refine region_plan Tt mo (fun ph_ w => Mem w0 w (([[(b1, cl .u16 256 F, 26), (b2, cl .u16 256 G, 26), (b3, cl .u16 256 fun _ => 0, 26)], [(b1, cl .u16 256 (sAdd F (fun _ => 0)), 26), (b2, cl .u16 256 G, 26), (b3, cl .u16 256 fun _ => 0, 26)], [(b1, cl .u16 256 (sAdd F (fun _ => 0)), 26), (b2, cl .u16 256 (sAdd G (fun _ => 0)), 26), (b3, cl .u16 256 fun _ => 0, 26)]] : List (List Blk)).getD ph_ [])) [6, 7] (rows := [⟨[], [(2, (Value.pointer (some ⟨b1, 0, none⟩)))], [0], .val (Value.agg (cl .u16 256 F))⟩, ⟨[], [], [0], .val (Value.agg (cl .u16 256 fun _ => 0))⟩, ⟨[(0, 12), (1, 13)], [], [0], .val (Value.agg (cl .u16 256 (sAdd F (fun _ => 0))))⟩, ⟨[], [(3, (Value.pointer (some ⟨b2, 0, none⟩)))], [0], .val (Value.agg (cl .u16 256 G))⟩, ⟨[], [], [0], .val (Value.agg (cl .u16 256 fun _ => 0))⟩, ⟨[(3, 15), (4, 16)], [], [0], .val (Value.agg (cl .u16 256 (sAdd G (fun _ => 0))))⟩, ⟨[(2, 14)], [(2, (Value.pointer (some ⟨b1, 0, none⟩)))], [0], .rel (fun _ _ => True) (fun _ _ _ _ _ => trivial)⟩, ⟨[(5, 17)], [(3, (Value.pointer (some ⟨b2, 0, none⟩)))], [1], .rel (fun _ _ => True) (fun _ _ _ _ _ => trivial)⟩]) (by kernel_rfl) hF hM.drew ?_ ?_
  · refine ⟨?_, ?_, ?_, ?_, ?_, ?_, ?_, ?_, trivial⟩
    · refine ⟨⟨rfl, trivial⟩, fun ph_ hp_ vs w hW _ => ?_⟩
      obtain rfl := memN_one hp_
      have hM : Mem w0 w [(b1, cl .u16 256 F, 26), (b2, cl .u16 256 G, 26), (b3, cl .u16 256 fun _ => 0, 26)] := hW
      exact Det.ob hW (d_loadA Try.underlying26 rfl sz26 rfl (hM.at 0 rfl) (cl_size _ _ _))
    · exact ⟨trivial, fun ph_ _ vs w hW _ => Det.ob hW (d_build0 Try.underlying26 (by kernel_rfl) z26)⟩
    · exact ⟨trivial, fun ph_ _ vs w hW _ => Ok1.obc (fun w' g => Mem.call hW g) (ok_call c17 rfl (Add_calls hf (fun _ _ => by omega) _))⟩
    · refine ⟨⟨rfl, trivial⟩, fun ph_ hp_ vs w hW _ => ?_⟩
      obtain rfl := memN_one hp_
      have hM : Mem w0 w [(b1, cl .u16 256 F, 26), (b2, cl .u16 256 G, 26), (b3, cl .u16 256 fun _ => 0, 26)] := hW
      exact Det.ob hW (d_loadA Try.underlying26 rfl sz26 rfl (hM.at 1 rfl) (cl_size _ _ _))
    · exact ⟨trivial, fun ph_ _ vs w hW _ => Det.ob hW (d_build0 Try.underlying26 (by kernel_rfl) z26)⟩
    · exact ⟨trivial, fun ph_ _ vs w hW _ => Ok1.obc (fun w' g => Mem.call hW g) (ok_call c17 rfl (Add_calls hg (fun _ _ => by omega) _))⟩
    · refine ⟨⟨rfl, trivial⟩, fun ph_ hp_ vs w hW _ => ?_⟩
      obtain rfl := memN_one hp_
      have hM : Mem w0 w [(b1, cl .u16 256 F, 26), (b2, cl .u16 256 G, 26), (b3, cl .u16 256 fun _ => 0, 26)] := hW
      exact Ok1.obs (fun w' hu => by exact hM.upd 0 rfl hu) (ok_storeA (c' := cl .u16 256 (sAdd F (fun _ => 0))) sz26 rfl rfl (cl_size _ _ _) (cl_one _ _ _) (hM.at 0 rfl) (cl_size _ _ _))
    · refine ⟨⟨rfl, trivial⟩, fun ph_ hp_ vs w hW _ => ?_⟩
      obtain rfl := memN_one hp_
      have hM : Mem w0 w [(b1, cl .u16 256 (sAdd F (fun _ => 0)), 26), (b2, cl .u16 256 G, 26), (b3, cl .u16 256 fun _ => 0, 26)] := hW
      exact Ok1.obs (fun w' hu => by exact hM.upd 1 rfl hu) (ok_storeA (c' := cl .u16 256 (sAdd G (fun _ => 0))) sz26 rfl rfl (cl_size _ _ _) (cl_one _ _ _) (hM.at 1 rfl) (cl_size _ _ _))
  · intro a w vs hW _ hF
    have hM : Mem w0 w [(b1, cl .u16 256 (sAdd F (fun _ => 0)), 26), (b2, cl .u16 256 (sAdd G (fun _ => 0)), 26), (b3, cl .u16 256 fun _ => 0, 26)] := hW
    have hF := hF.sub (L' := [(0, (Value.agg (cl .u16 256 F))), (1, (Value.agg (cl .u16 256 G))), (2, (Value.pointer (some ⟨b1, 0, none⟩))), (3, (Value.pointer (some ⟨b2, 0, none⟩))), (4, (Value.pointer (some ⟨b3, 0, none⟩)))]) ⟨rfl, rfl, rfl, rfl, rfl, trivial⟩
    refine then_n ?_
    refine wp_seq ?_
    refine wp_region_lit ?_
    refine wlR (ok_call c35 rfl (zetas_calls _)) rfl hF ?_
    rintro _ w a ⟨rfl, hg⟩ hF
    have hM := hM.call hg
    refine wlR (ok_alloc z54) rfl hF ?_
    rintro _ w a ⟨b4, rfl, hnb_⟩ hF
    have hM : Mem w0 w [(b1, cl .u16 256 (sAdd F (fun _ => 0)), 26), (b2, cl .u16 256 (sAdd G (fun _ => 0)), 26), (b3, cl .u16 256 fun _ => 0, 26), (b4, cl .u32 128 fun _ => 0, 54)] := hM.alloc hnb_
    refine wl0R (ok_storeA (c' := cl .u32 128 zt) sz54 rfl rfl (cl_size _ _ _) (cl_one _ _ _) (hM.at 3 rfl) (cl_size _ _ _)) hF ?_
    rintro w a hu hF
    have hM : Mem w0 w [(b1, cl .u16 256 (sAdd F (fun _ => 0)), 26), (b2, cl .u16 256 (sAdd G (fun _ => 0)), 26), (b3, cl .u16 256 fun _ => 0, 26), (b4, cl .u32 128 zt, 54)] := hM.upd 3 rfl hu
    refine wl_nil ?_
    have hF := hF.sub (L' := [(0, (Value.agg (cl .u16 256 F))), (1, (Value.agg (cl .u16 256 G))), (2, (Value.pointer (some ⟨b1, 0, none⟩))), (3, (Value.pointer (some ⟨b2, 0, none⟩))), (4, (Value.pointer (some ⟨b3, 0, none⟩))), (5, (Value.pointer (some ⟨b4, 0, none⟩)))]) ⟨rfl, rfl, rfl, rfl, rfl, rfl, trivial⟩
    refine then_n ?_
    refine wp_seq ?_
    refine wp_seq ?_
    refine wp_region_lit ?_
    refine wl (d_assign rfl) rfl hF (fun a hF => ?_)
    refine wl_nil ?_
    have hF := hF.sub (L' := [(0, (Value.agg (cl .u16 256 F))), (1, (Value.agg (cl .u16 256 G))), (2, (Value.pointer (some ⟨b1, 0, none⟩))), (3, (Value.pointer (some ⟨b2, 0, none⟩))), (4, (Value.pointer (some ⟨b3, 0, none⟩))), (5, (Value.pointer (some ⟨b4, 0, none⟩))), (6, (Value.int .i64 0))]) ⟨rfl, rfl, rfl, rfl, rfl, rfl, rfl, trivial⟩
    refine then_n ?_
    refine wp_block ?_
    refine wp_loop_k (fun fu_ a w => ∃ m : Nat, fu_ = 128 - m ∧ (m ≤ 128) ∧ Frm a 78 [(2, (Value.pointer (some ⟨b1, 0, none⟩))), (3, (Value.pointer (some ⟨b2, 0, none⟩))), (4, (Value.pointer (some ⟨b3, 0, none⟩))), (5, (Value.pointer (some ⟨b4, 0, none⟩))), (6, (Value.int .i64 ((2 * m : Nat) : Int)))] ∧ Mem w0 w [(b1, cl .u16 256 (to (2 * m) (sMul F G) (rd F)), 26), (b2, cl .u16 256 (rd G), 26), (b3, cl .u16 256 fun _ => 0, 26), (b4, cl .u32 128 zt, 54)]) _ ⟨0, rfl, (by omega), hF.sub ⟨rfl, rfl, rfl, rfl, rfl, trivial⟩, ?_⟩ ?_
    · rw [Nat.mul_zero, to_zero, ← sAdd_zero, ← sAdd_zero]; exact hM
    rintro _ a w ⟨m, rfl, hl1_0, hF, hM⟩
    refine wp_seq ?_
    refine wp_seq ?_
    refine wp_region_lit ?_
    refine wl (d_move rfl) rfl hF (fun a hF => ?_)
    refine wl (d_lss rfl rfl) rfl hF (fun a hF => ?_)
    refine wl_nil ?_
    have hF := hF.sub (L' := [(2, (Value.pointer (some ⟨b1, 0, none⟩))), (3, (Value.pointer (some ⟨b2, 0, none⟩))), (4, (Value.pointer (some ⟨b3, 0, none⟩))), (5, (Value.pointer (some ⟨b4, 0, none⟩))), (6, (Value.int .i64 ((2 * m : Nat) : Int))), (20, (Value.bool (decide (((2 * m : Nat) : Int) < 256))))]) ⟨rfl, rfl, rfl, rfl, rfl, rfl, trivial⟩
    refine then_n ?_
    refine wp_if hF rfl (fun h => ?_) (fun h => ?_)
    · have hlt := of_decide_eq_true h
      clear h
      have bz := zt_b m
      have bzz := mulb bz bz
      have bg := gam_b m
      have bf0 := rd_red F (2 * m) (by omega)
      have bf1 := rd_red F (2 * m + 1) (by omega)
      have bg0 := rd_red G (2 * m) (by omega)
      have bg1 := rd_red G (2 * m + 1) (by omega)
      have m1 := mulb bf0 bg0
      have m2 := mulb bf1 bg1
      have m3 := mulb bf0 bg1
      have m4 := mulb bf1 bg0
      have m5 := mulb (x := rd F (2 * m + 1) * rd G (2 * m + 1) % 3329) (by omega) bg
      refine wp_skip ?_
      refine then_n ?_
      refine wp_seq ?_
      refine wp_block ?_
      refine wp_seq ?_
      refine region_plan Tt mo (fun ph_ w => Mem w0 w (([[(b1, cl .u16 256 (to (2 * m) (sMul F G) (rd F)), 26), (b2, cl .u16 256 (rd G), 26), (b3, cl .u16 256 fun _ => 0, 26), (b4, cl .u32 128 zt, 54)]] : List (List Blk)).getD ph_ [])) [] (rows := [⟨[], [(6, (Value.int .i64 ((2 * m : Nat) : Int)))], [0], .val (Value.int .i64 ((2 * m : Nat) : Int))⟩, ⟨[(0, 23)], [], [0], .val (Value.int .i64 (m : Int))⟩, ⟨[(1, 24)], [(5, (Value.pointer (some ⟨b4, 0, none⟩)))], [0], .val (Value.pointer (some ⟨b4, m, none⟩))⟩, ⟨[(2, 25)], [], [0], .val (Value.int .u32 (zt m))⟩, ⟨[], [(6, (Value.int .i64 ((2 * m : Nat) : Int)))], [0], .val (Value.int .i64 ((2 * m : Nat) : Int))⟩, ⟨[(4, 27)], [], [0], .val (Value.int .i64 (m : Int))⟩, ⟨[(5, 28)], [(5, (Value.pointer (some ⟨b4, 0, none⟩)))], [0], .val (Value.pointer (some ⟨b4, m, none⟩))⟩, ⟨[(6, 29)], [], [0], .val (Value.int .u32 (zt m))⟩, ⟨[(3, 26), (7, 30)], [], [0], .val (Value.int .u32 (zt m * zt m))⟩, ⟨[(8, 31)], [], [0], .val (Value.int .u32 ((zt m * zt m) % 3329))⟩, ⟨[(9, 32)], [], [0], .val (Value.int .u32 (((zt m * zt m) % 3329) * 17))⟩, ⟨[(10, 33)], [], [0], .val (Value.int .u32 (gam m))⟩, ⟨[(11, 34)], [], [0], .val (Value.int .u32 (gam m))⟩]) (by kernel_rfl) hF hM.drew ?_ ?_
      · refine ⟨?_, ?_, ?_, ?_, ?_, ?_, ?_, ?_, ?_, ?_, ?_, ?_, ?_, trivial⟩
        · exact ⟨⟨rfl, trivial⟩, fun ph_ _ vs w hW _ => Det.ob hW (d_move rfl)⟩
        · exact ⟨trivial, fun ph_ _ vs w hW _ => Det.ob hW (d_val (d_quo rfl rfl (by omega) (quo_i64 (by omega) (by omega) (by omega))) (by omega))⟩
        · exact ⟨⟨rfl, trivial⟩, fun ph_ _ vs w hW _ => Det.ob hW (d_ixA0 (j := m) Try.underlying54 sz53 rfl rfl rfl (by omega))⟩
        · refine ⟨trivial, fun ph_ hp_ vs w hW _ => ?_⟩
          obtain rfl := memN_one hp_
          have hM : Mem w0 w [(b1, cl .u16 256 (to (2 * m) (sMul F G) (rd F)), 26), (b2, cl .u16 256 (rd G), 26), (b3, cl .u16 256 fun _ => 0, 26), (b4, cl .u32 128 zt, 54)] := hW
          exact Det.ob hW (d_load1 Try.underlying53 rfl rfl (hM.cell 3 rfl (cl_get (by omega))))
        · exact ⟨⟨rfl, trivial⟩, fun ph_ _ vs w hW _ => Det.ob hW (d_move rfl)⟩
        · exact ⟨trivial, fun ph_ _ vs w hW _ => Det.ob hW (d_val (d_quo rfl rfl (by omega) (quo_i64 (by omega) (by omega) (by omega))) (by omega))⟩
        · exact ⟨⟨rfl, trivial⟩, fun ph_ _ vs w hW _ => Det.ob hW (d_ixA0 (j := m) Try.underlying54 sz53 rfl rfl rfl (by omega))⟩
        · refine ⟨trivial, fun ph_ hp_ vs w hW _ => ?_⟩
          obtain rfl := memN_one hp_
          have hM : Mem w0 w [(b1, cl .u16 256 (to (2 * m) (sMul F G) (rd F)), 26), (b2, cl .u16 256 (rd G), 26), (b3, cl .u16 256 fun _ => 0, 26), (b4, cl .u32 128 zt, 54)] := hW
          exact Det.ob hW (d_load1 Try.underlying53 rfl rfl (hM.cell 3 rfl (cl_get (by omega))))
        · exact ⟨trivial, fun ph_ _ vs w hW _ => Det.ob hW (d_mul rfl rfl (wrap_u32 (by omega) (by omega)))⟩
        · exact ⟨trivial, fun ph_ _ vs w hW _ => Det.ob hW (d_rem rfl rfl (by omega) (tmod_pos (by omega)))⟩
        · exact ⟨trivial, fun ph_ _ vs w hW _ => Det.ob hW (d_mul rfl rfl (wrap_u32 (by omega) (by omega)))⟩
        · exact ⟨trivial, fun ph_ _ vs w hW _ => Det.ob hW (d_val (d_rem rfl rfl (by omega) (tmod_pos (by omega))) rfl)⟩
        · exact ⟨trivial, fun ph_ _ vs w hW _ => Det.ob hW (d_assign rfl)⟩
      · intro a w vs hW _ hF
        have hM : Mem w0 w [(b1, cl .u16 256 (to (2 * m) (sMul F G) (rd F)), 26), (b2, cl .u16 256 (rd G), 26), (b3, cl .u16 256 fun _ => 0, 26), (b4, cl .u32 128 zt, 54)] := hW
        have hF := hF.sub (L' := [(2, (Value.pointer (some ⟨b1, 0, none⟩))), (3, (Value.pointer (some ⟨b2, 0, none⟩))), (4, (Value.pointer (some ⟨b3, 0, none⟩))), (5, (Value.pointer (some ⟨b4, 0, none⟩))), (6, (Value.int .i64 ((2 * m : Nat) : Int))), (7, (Value.int .u32 (gam m))), (20, (Value.bool (decide (((2 * m : Nat) : Int) < 256))))]) ⟨rfl, rfl, rfl, rfl, rfl, rfl, rfl, trivial⟩
        refine then_n ?_
        refine wp_seq ?_
        refine region_plan Tt mo (fun ph_ w => Mem w0 w (([[(b1, cl .u16 256 (to (2 * m) (sMul F G) (rd F)), 26), (b2, cl .u16 256 (rd G), 26), (b3, cl .u16 256 fun _ => 0, 26), (b4, cl .u32 128 zt, 54)]] : List (List Blk)).getD ph_ [])) [] (rows := [⟨[], [(6, (Value.int .i64 ((2 * m : Nat) : Int)))], [0], .val (Value.int .i64 ((2 * m : Nat) : Int))⟩, ⟨[(0, 35)], [(2, (Value.pointer (some ⟨b1, 0, none⟩)))], [0], .val (Value.pointer (some ⟨b1, 2 * m, none⟩))⟩, ⟨[(1, 36)], [], [0], .val (Value.int .u16 (rd F (2 * m)))⟩, ⟨[(2, 37)], [], [0], .val (Value.int .u32 (rd F (2 * m)))⟩, ⟨[], [(6, (Value.int .i64 ((2 * m : Nat) : Int)))], [0], .val (Value.int .i64 ((2 * m : Nat) : Int))⟩, ⟨[(4, 39)], [], [0], .val (Value.int .i64 (((2 * m : Nat) : Int) + 1))⟩, ⟨[(5, 40)], [(2, (Value.pointer (some ⟨b1, 0, none⟩)))], [0], .val (Value.pointer (some ⟨b1, 2 * m + 1, none⟩))⟩, ⟨[(6, 41)], [], [0], .val (Value.int .u16 (rd F (2 * m + 1)))⟩, ⟨[(7, 42)], [], [0], .val (Value.int .u32 (rd F (2 * m + 1)))⟩, ⟨[], [(6, (Value.int .i64 ((2 * m : Nat) : Int)))], [0], .val (Value.int .i64 ((2 * m : Nat) : Int))⟩, ⟨[(9, 44)], [(3, (Value.pointer (some ⟨b2, 0, none⟩)))], [0], .val (Value.pointer (some ⟨b2, 2 * m, none⟩))⟩, ⟨[(10, 45)], [], [0], .val (Value.int .u16 (rd G (2 * m)))⟩, ⟨[(11, 46)], [], [0], .val (Value.int .u32 (rd G (2 * m)))⟩, ⟨[], [(6, (Value.int .i64 ((2 * m : Nat) : Int)))], [0], .val (Value.int .i64 ((2 * m : Nat) : Int))⟩, ⟨[(13, 48)], [], [0], .val (Value.int .i64 (((2 * m : Nat) : Int) + 1))⟩, ⟨[(14, 49)], [(3, (Value.pointer (some ⟨b2, 0, none⟩)))], [0], .val (Value.pointer (some ⟨b2, 2 * m + 1, none⟩))⟩, ⟨[(15, 50)], [], [0], .val (Value.int .u16 (rd G (2 * m + 1)))⟩, ⟨[(16, 51)], [], [0], .val (Value.int .u32 (rd G (2 * m + 1)))⟩, ⟨[(3, 38)], [], [0], .val (Value.int .u32 (rd F (2 * m)))⟩, ⟨[(8, 43)], [], [0], .val (Value.int .u32 (rd F (2 * m + 1)))⟩, ⟨[(12, 47)], [], [0], .val (Value.int .u32 (rd G (2 * m)))⟩, ⟨[(17, 52)], [], [0], .val (Value.int .u32 (rd G (2 * m + 1)))⟩]) (by kernel_rfl) hF hM.drew ?_ ?_
        · refine ⟨?_, ?_, ?_, ?_, ?_, ?_, ?_, ?_, ?_, ?_, ?_, ?_, ?_, ?_, ?_, ?_, ?_, ?_, ?_, ?_, ?_, ?_, trivial⟩
          · exact ⟨⟨rfl, trivial⟩, fun ph_ _ vs w hW _ => Det.ob hW (d_move rfl)⟩
          · exact ⟨⟨rfl, trivial⟩, fun ph_ _ vs w hW _ => Det.ob hW (d_ixA0 (j := 2 * m) Try.underlying26 sz24 rfl rfl rfl (by omega))⟩
          · refine ⟨trivial, fun ph_ hp_ vs w hW _ => ?_⟩
            obtain rfl := memN_one hp_
            have hM : Mem w0 w [(b1, cl .u16 256 (to (2 * m) (sMul F G) (rd F)), 26), (b2, cl .u16 256 (rd G), 26), (b3, cl .u16 256 fun _ => 0, 26), (b4, cl .u32 128 zt, 54)] := hW
            exact Det.ob hW (d_load1 Try.underlying24 rfl rfl (hM.cell 0 rfl (by rw [cl_get (by omega), to_ge _ _ (by omega)])))
          · exact ⟨trivial, fun ph_ _ vs w hW _ => Det.ob hW (d_conv Try.underlying24 Try.underlying53 rfl (wrap_u32 (by omega) (by omega)))⟩
          · exact ⟨⟨rfl, trivial⟩, fun ph_ _ vs w hW _ => Det.ob hW (d_move rfl)⟩
          · exact ⟨trivial, fun ph_ _ vs w hW _ => Det.ob hW (d_add rfl rfl (wrap_i64 (by omega) (by omega)))⟩
          · exact ⟨⟨rfl, trivial⟩, fun ph_ _ vs w hW _ => Det.ob hW (d_ixA0 (j := 2 * m + 1) Try.underlying26 sz24 rfl rfl rfl (by omega))⟩
          · refine ⟨trivial, fun ph_ hp_ vs w hW _ => ?_⟩
            obtain rfl := memN_one hp_
            have hM : Mem w0 w [(b1, cl .u16 256 (to (2 * m) (sMul F G) (rd F)), 26), (b2, cl .u16 256 (rd G), 26), (b3, cl .u16 256 fun _ => 0, 26), (b4, cl .u32 128 zt, 54)] := hW
            exact Det.ob hW (d_load1 Try.underlying24 rfl rfl (hM.cell 0 rfl (by rw [cl_get (by omega), to_ge _ _ (by omega)])))
          · exact ⟨trivial, fun ph_ _ vs w hW _ => Det.ob hW (d_conv Try.underlying24 Try.underlying53 rfl (wrap_u32 (by omega) (by omega)))⟩
          · exact ⟨⟨rfl, trivial⟩, fun ph_ _ vs w hW _ => Det.ob hW (d_move rfl)⟩
          · exact ⟨⟨rfl, trivial⟩, fun ph_ _ vs w hW _ => Det.ob hW (d_ixA0 (j := 2 * m) Try.underlying26 sz24 rfl rfl rfl (by omega))⟩
          · refine ⟨trivial, fun ph_ hp_ vs w hW _ => ?_⟩
            obtain rfl := memN_one hp_
            have hM : Mem w0 w [(b1, cl .u16 256 (to (2 * m) (sMul F G) (rd F)), 26), (b2, cl .u16 256 (rd G), 26), (b3, cl .u16 256 fun _ => 0, 26), (b4, cl .u32 128 zt, 54)] := hW
            exact Det.ob hW (d_load1 Try.underlying24 rfl rfl (hM.cell 1 rfl (by rw [cl_get (by omega)])))
          · exact ⟨trivial, fun ph_ _ vs w hW _ => Det.ob hW (d_conv Try.underlying24 Try.underlying53 rfl (wrap_u32 (by omega) (by omega)))⟩
          · exact ⟨⟨rfl, trivial⟩, fun ph_ _ vs w hW _ => Det.ob hW (d_move rfl)⟩
          · exact ⟨trivial, fun ph_ _ vs w hW _ => Det.ob hW (d_add rfl rfl (wrap_i64 (by omega) (by omega)))⟩
          · exact ⟨⟨rfl, trivial⟩, fun ph_ _ vs w hW _ => Det.ob hW (d_ixA0 (j := 2 * m + 1) Try.underlying26 sz24 rfl rfl rfl (by omega))⟩
          · refine ⟨trivial, fun ph_ hp_ vs w hW _ => ?_⟩
            obtain rfl := memN_one hp_
            have hM : Mem w0 w [(b1, cl .u16 256 (to (2 * m) (sMul F G) (rd F)), 26), (b2, cl .u16 256 (rd G), 26), (b3, cl .u16 256 fun _ => 0, 26), (b4, cl .u32 128 zt, 54)] := hW
            exact Det.ob hW (d_load1 Try.underlying24 rfl rfl (hM.cell 1 rfl (by rw [cl_get (by omega)])))
          · exact ⟨trivial, fun ph_ _ vs w hW _ => Det.ob hW (d_conv Try.underlying24 Try.underlying53 rfl (wrap_u32 (by omega) (by omega)))⟩
          · exact ⟨trivial, fun ph_ _ vs w hW _ => Det.ob hW (d_assign rfl)⟩
          · exact ⟨trivial, fun ph_ _ vs w hW _ => Det.ob hW (d_assign rfl)⟩
          · exact ⟨trivial, fun ph_ _ vs w hW _ => Det.ob hW (d_assign rfl)⟩
          · exact ⟨trivial, fun ph_ _ vs w hW _ => Det.ob hW (d_assign rfl)⟩
        · intro a w vs hW _ hF
          have hM : Mem w0 w [(b1, cl .u16 256 (to (2 * m) (sMul F G) (rd F)), 26), (b2, cl .u16 256 (rd G), 26), (b3, cl .u16 256 fun _ => 0, 26), (b4, cl .u32 128 zt, 54)] := hW
          have hF := hF.sub (L' := [(2, (Value.pointer (some ⟨b1, 0, none⟩))), (3, (Value.pointer (some ⟨b2, 0, none⟩))), (4, (Value.pointer (some ⟨b3, 0, none⟩))), (5, (Value.pointer (some ⟨b4, 0, none⟩))), (6, (Value.int .i64 ((2 * m : Nat) : Int))), (7, (Value.int .u32 (gam m))), (8, (Value.int .u32 (rd F (2 * m)))), (9, (Value.int .u32 (rd F (2 * m + 1)))), (10, (Value.int .u32 (rd G (2 * m)))), (11, (Value.int .u32 (rd G (2 * m + 1)))), (20, (Value.bool (decide (((2 * m : Nat) : Int) < 256))))]) ⟨rfl, rfl, rfl, rfl, rfl, rfl, rfl, rfl, rfl, rfl, rfl, trivial⟩
          refine then_n ?_
          refine region_plan Tt mo (fun ph_ w => Mem w0 w (([[(b1, cl .u16 256 (to (2 * m) (sMul F G) (rd F)), 26), (b2, cl .u16 256 (rd G), 26), (b3, cl .u16 256 fun _ => 0, 26), (b4, cl .u32 128 zt, 54)], [(b1, cl .u16 256 (upd (to (2 * m) (sMul F G) (rd F)) (2 * m) (((rd F (2 * m) * rd G (2 * m)) + (((rd F (2 * m + 1) * rd G (2 * m + 1)) % 3329) * gam m)) % 3329)), 26), (b2, cl .u16 256 (rd G), 26), (b3, cl .u16 256 fun _ => 0, 26), (b4, cl .u32 128 zt, 54)], [(b1, cl .u16 256 (upd (upd (to (2 * m) (sMul F G) (rd F)) (2 * m) (((rd F (2 * m) * rd G (2 * m)) + (((rd F (2 * m + 1) * rd G (2 * m + 1)) % 3329) * gam m)) % 3329)) (2 * m + 1) (((rd F (2 * m) * rd G (2 * m + 1)) + (rd F (2 * m + 1) * rd G (2 * m))) % 3329)), 26), (b2, cl .u16 256 (rd G), 26), (b3, cl .u16 256 fun _ => 0, 26), (b4, cl .u32 128 zt, 54)]] : List (List Blk)).getD ph_ [])) [23, 25] (rows := [⟨[], [(6, (Value.int .i64 ((2 * m : Nat) : Int)))], [0], .val (Value.int .i64 ((2 * m : Nat) : Int))⟩, ⟨[], [(6, (Value.int .i64 ((2 * m : Nat) : Int)))], [0, 1], .val (Value.int .i64 ((2 * m : Nat) : Int))⟩, ⟨[(1, 54)], [], [0, 1], .val (Value.int .i64 (((2 * m : Nat) : Int) + 1))⟩, ⟨[], [(8, (Value.int .u32 (rd F (2 * m))))], [0], .val (Value.int .u32 (rd F (2 * m)))⟩, ⟨[], [(10, (Value.int .u32 (rd G (2 * m))))], [0], .val (Value.int .u32 (rd G (2 * m)))⟩, ⟨[(3, 56), (4, 57)], [], [0], .val (Value.int .u32 (rd F (2 * m) * rd G (2 * m)))⟩, ⟨[], [(9, (Value.int .u32 (rd F (2 * m + 1))))], [0], .val (Value.int .u32 (rd F (2 * m + 1)))⟩, ⟨[], [(11, (Value.int .u32 (rd G (2 * m + 1))))], [0], .val (Value.int .u32 (rd G (2 * m + 1)))⟩, ⟨[(6, 59), (7, 60)], [], [0], .val (Value.int .u32 (rd F (2 * m + 1) * rd G (2 * m + 1)))⟩, ⟨[(8, 61)], [], [0], .val (Value.int .u32 ((rd F (2 * m + 1) * rd G (2 * m + 1)) % 3329))⟩, ⟨[], [(7, (Value.int .u32 (gam m)))], [0], .val (Value.int .u32 (gam m))⟩, ⟨[(9, 62), (10, 63)], [], [0], .val (Value.int .u32 (((rd F (2 * m + 1) * rd G (2 * m + 1)) % 3329) * gam m))⟩, ⟨[(5, 58), (11, 64)], [], [0], .val (Value.int .u32 ((rd F (2 * m) * rd G (2 * m)) + (((rd F (2 * m + 1) * rd G (2 * m + 1)) % 3329) * gam m)))⟩, ⟨[(12, 65)], [], [0], .val (Value.int .u16 (((rd F (2 * m) * rd G (2 * m)) + (((rd F (2 * m + 1) * rd G (2 * m + 1)) % 3329) * gam m)) % 3329))⟩, ⟨[], [(8, (Value.int .u32 (rd F (2 * m))))], [0], .val (Value.int .u32 (rd F (2 * m)))⟩, ⟨[], [(11, (Value.int .u32 (rd G (2 * m + 1))))], [0], .val (Value.int .u32 (rd G (2 * m + 1)))⟩, ⟨[(14, 67), (15, 68)], [], [0], .val (Value.int .u32 (rd F (2 * m) * rd G (2 * m + 1)))⟩, ⟨[], [(9, (Value.int .u32 (rd F (2 * m + 1))))], [0], .val (Value.int .u32 (rd F (2 * m + 1)))⟩, ⟨[], [(10, (Value.int .u32 (rd G (2 * m))))], [0], .val (Value.int .u32 (rd G (2 * m)))⟩, ⟨[(17, 70), (18, 71)], [], [0], .val (Value.int .u32 (rd F (2 * m + 1) * rd G (2 * m)))⟩, ⟨[(16, 69), (19, 72)], [], [0], .val (Value.int .u32 ((rd F (2 * m) * rd G (2 * m + 1)) + (rd F (2 * m + 1) * rd G (2 * m))))⟩, ⟨[(20, 73)], [], [0], .val (Value.int .u16 (((rd F (2 * m) * rd G (2 * m + 1)) + (rd F (2 * m + 1) * rd G (2 * m))) % 3329))⟩, ⟨[(0, 53)], [(2, (Value.pointer (some ⟨b1, 0, none⟩)))], [0], .val (Value.pointer (some ⟨b1, 2 * m, none⟩))⟩, ⟨[(22, 75), (13, 66)], [], [0], .rel (fun _ _ => True) (fun _ _ _ _ _ => trivial)⟩, ⟨[(2, 55)], [(2, (Value.pointer (some ⟨b1, 0, none⟩)))], [1], .val (Value.pointer (some ⟨b1, 2 * m + 1, none⟩))⟩, ⟨[(24, 76), (21, 74)], [], [1], .rel (fun _ _ => True) (fun _ _ _ _ _ => trivial)⟩]) (by kernel_rfl) hF hM.drew ?_ ?_
          · refine ⟨?_, ?_, ?_, ?_, ?_, ?_, ?_, ?_, ?_, ?_, ?_, ?_, ?_, ?_, ?_, ?_, ?_, ?_, ?_, ?_, ?_, ?_, ?_, ?_, ?_, ?_, trivial⟩
            · exact ⟨⟨rfl, trivial⟩, fun ph_ _ vs w hW _ => Det.ob hW (d_move rfl)⟩
            · exact ⟨⟨rfl, trivial⟩, fun ph_ _ vs w hW _ => Det.ob hW (d_move rfl)⟩
            · exact ⟨trivial, fun ph_ _ vs w hW _ => Det.ob hW (d_add rfl rfl (wrap_i64 (by omega) (by omega)))⟩
            · exact ⟨⟨rfl, trivial⟩, fun ph_ _ vs w hW _ => Det.ob hW (d_move rfl)⟩
            · exact ⟨⟨rfl, trivial⟩, fun ph_ _ vs w hW _ => Det.ob hW (d_move rfl)⟩
            · exact ⟨trivial, fun ph_ _ vs w hW _ => Det.ob hW (d_mul rfl rfl (wrap_u32 (by omega) (by omega)))⟩
            · exact ⟨⟨rfl, trivial⟩, fun ph_ _ vs w hW _ => Det.ob hW (d_move rfl)⟩
            · exact ⟨⟨rfl, trivial⟩, fun ph_ _ vs w hW _ => Det.ob hW (d_move rfl)⟩
            · exact ⟨trivial, fun ph_ _ vs w hW _ => Det.ob hW (d_mul rfl rfl (wrap_u32 (by omega) (by omega)))⟩
            · exact ⟨trivial, fun ph_ _ vs w hW _ => Det.ob hW (d_rem rfl rfl (by omega) (tmod_pos (by omega)))⟩
            · exact ⟨⟨rfl, trivial⟩, fun ph_ _ vs w hW _ => Det.ob hW (d_move rfl)⟩
            · exact ⟨trivial, fun ph_ _ vs w hW _ => Det.ob hW (d_mul rfl rfl (wrap_u32 (by omega) (by omega)))⟩
            · exact ⟨trivial, fun ph_ _ vs w hW _ => Det.ob hW (d_add rfl rfl (wrap_u32 (by omega) (by omega)))⟩
            · exact ⟨trivial, fun ph_ _ vs w hW _ => Ok1.obc (fun w' g => Mem.call hW g) (ok_call c36 rfl (mod_calls _ (by omega) (by omega) _))⟩
            · exact ⟨⟨rfl, trivial⟩, fun ph_ _ vs w hW _ => Det.ob hW (d_move rfl)⟩
            · exact ⟨⟨rfl, trivial⟩, fun ph_ _ vs w hW _ => Det.ob hW (d_move rfl)⟩
            · exact ⟨trivial, fun ph_ _ vs w hW _ => Det.ob hW (d_mul rfl rfl (wrap_u32 (by omega) (by omega)))⟩
            · exact ⟨⟨rfl, trivial⟩, fun ph_ _ vs w hW _ => Det.ob hW (d_move rfl)⟩
            · exact ⟨⟨rfl, trivial⟩, fun ph_ _ vs w hW _ => Det.ob hW (d_move rfl)⟩
            · exact ⟨trivial, fun ph_ _ vs w hW _ => Det.ob hW (d_mul rfl rfl (wrap_u32 (by omega) (by omega)))⟩
            · exact ⟨trivial, fun ph_ _ vs w hW _ => Det.ob hW (d_add rfl rfl (wrap_u32 (by omega) (by omega)))⟩
            · exact ⟨trivial, fun ph_ _ vs w hW _ => Ok1.obc (fun w' g => Mem.call hW g) (ok_call c36 rfl (mod_calls _ (by omega) (by omega) _))⟩
            · exact ⟨⟨rfl, trivial⟩, fun ph_ _ vs w hW _ => Det.ob hW (d_ixA0 (j := 2 * m) Try.underlying26 sz24 rfl rfl rfl (by omega))⟩
            · refine ⟨trivial, fun ph_ hp_ vs w hW _ => ?_⟩
              obtain rfl := memN_one hp_
              have hM : Mem w0 w [(b1, cl .u16 256 (to (2 * m) (sMul F G) (rd F)), 26), (b2, cl .u16 256 (rd G), 26), (b3, cl .u16 256 fun _ => 0, 26), (b4, cl .u32 128 zt, 54)] := hW
              exact Ok1.obs (fun w' hu => by rw [cl_set] at hu; exact hM.upd 0 rfl hu) (ok_store1 (v := (Value.int .u16 (((rd F (2 * m) * rd G (2 * m)) + (((rd F (2 * m + 1) * rd G (2 * m + 1)) % 3329) * gam m)) % 3329))) sz24 rfl rfl rfl (hM.at 0 rfl) (by rw [cl_size]; omega))
            · exact ⟨⟨rfl, trivial⟩, fun ph_ _ vs w hW _ => Det.ob hW (d_ixA0 (j := 2 * m + 1) Try.underlying26 sz24 rfl rfl rfl (by omega))⟩
            · refine ⟨trivial, fun ph_ hp_ vs w hW _ => ?_⟩
              obtain rfl := memN_one hp_
              have hM : Mem w0 w [(b1, cl .u16 256 (upd (to (2 * m) (sMul F G) (rd F)) (2 * m) (((rd F (2 * m) * rd G (2 * m)) + (((rd F (2 * m + 1) * rd G (2 * m + 1)) % 3329) * gam m)) % 3329)), 26), (b2, cl .u16 256 (rd G), 26), (b3, cl .u16 256 fun _ => 0, 26), (b4, cl .u32 128 zt, 54)] := hW
              exact Ok1.obs (fun w' hu => by rw [cl_set] at hu; exact hM.upd 0 rfl hu) (ok_store1 (v := (Value.int .u16 (((rd F (2 * m) * rd G (2 * m + 1)) + (rd F (2 * m + 1) * rd G (2 * m))) % 3329))) sz24 rfl rfl rfl (hM.at 0 rfl) (by rw [cl_size]; omega))
          · intro a w vs hW _ hF
            have hM : Mem w0 w [(b1, cl .u16 256 (upd (upd (to (2 * m) (sMul F G) (rd F)) (2 * m) (((rd F (2 * m) * rd G (2 * m)) + (((rd F (2 * m + 1) * rd G (2 * m + 1)) % 3329) * gam m)) % 3329)) (2 * m + 1) (((rd F (2 * m) * rd G (2 * m + 1)) + (rd F (2 * m + 1) * rd G (2 * m))) % 3329)), 26), (b2, cl .u16 256 (rd G), 26), (b3, cl .u16 256 fun _ => 0, 26), (b4, cl .u32 128 zt, 54)] := hW
            have hF := hF.sub (L' := [(2, (Value.pointer (some ⟨b1, 0, none⟩))), (3, (Value.pointer (some ⟨b2, 0, none⟩))), (4, (Value.pointer (some ⟨b3, 0, none⟩))), (5, (Value.pointer (some ⟨b4, 0, none⟩))), (6, (Value.int .i64 ((2 * m : Nat) : Int))), (7, (Value.int .u32 (gam m))), (8, (Value.int .u32 (rd F (2 * m)))), (9, (Value.int .u32 (rd F (2 * m + 1)))), (10, (Value.int .u32 (rd G (2 * m)))), (11, (Value.int .u32 (rd G (2 * m + 1)))), (20, (Value.bool (decide (((2 * m : Nat) : Int) < 256))))]) ⟨rfl, rfl, rfl, rfl, rfl, rfl, rfl, rfl, rfl, rfl, rfl, trivial⟩
            refine block_n ?_
            refine then_n ?_
            refine wp_region_lit ?_
            refine wl (d_move rfl) rfl hF (fun a hF => ?_)
            refine wl (d_add rfl rfl (wrap_i64 (by omega) (by omega))) rfl hF (fun a hF => ?_)
            refine wl (d_assign rfl) rfl hF (fun a hF => ?_)
            refine wl_nil ?_
            have hF := hF.sub (L' := [(2, (Value.pointer (some ⟨b1, 0, none⟩))), (3, (Value.pointer (some ⟨b2, 0, none⟩))), (4, (Value.pointer (some ⟨b3, 0, none⟩))), (5, (Value.pointer (some ⟨b4, 0, none⟩))), (6, (Value.int .i64 (((2 * m : Nat) : Int) + 2))), (7, (Value.int .u32 (gam m))), (8, (Value.int .u32 (rd F (2 * m)))), (9, (Value.int .u32 (rd F (2 * m + 1)))), (10, (Value.int .u32 (rd G (2 * m)))), (11, (Value.int .u32 (rd G (2 * m + 1)))), (20, (Value.bool (decide (((2 * m : Nat) : Int) < 256))))]) ⟨rfl, rfl, rfl, rfl, rfl, rfl, rfl, rfl, rfl, rfl, rfl, trivial⟩
            refine then_n ?_
            rw [show ((2 * m : Nat) : Int) + 2 = ((2 * (m + 1) : Nat) : Int) by omega] at hF
            refine ⟨_, ?_, m + 1, rfl, (by omega), hF.sub ⟨rfl, rfl, rfl, rfl, rfl, trivial⟩, ?_⟩
            · omega
            rw [to_step2 (by rw [sMul_lo]) (by rw [sMul_hi])] at hM
            exact hM
    · have hlt := of_decide_eq_false h
      clear h
      have hm : m = 128 := by omega
      rw [show 2 * m = 256 by omega, to_all] at hM
      refine wp_exit ?_
      refine then_exit ?_
      refine then_exit ?_
      refine block_exit ?_
      refine then_n ?_
      refine wp_seq ?_
      refine wp_region_lit ?_
      refine wl (d_loadA Try.underlying26 rfl sz26 rfl (hM.at 0 rfl) (cl_size _ _ _)) rfl hF (fun a hF => ?_)
      refine wl0R (ok_storeA (c' := cl .u16 256 (sMul F G)) sz26 rfl rfl (cl_size _ _ _) (cl_one _ _ _) (hM.at 2 rfl) (cl_size _ _ _)) hF ?_
      rintro w a hu hF
      have hM : Mem w0 w [(b1, cl .u16 256 (sMul F G), 26), (b2, cl .u16 256 (rd G), 26), (b3, cl .u16 256 (sMul F G), 26), (b4, cl .u32 128 zt, 54)] := hM.upd 2 rfl hu
      refine wl_nil ?_
      have hF := hF.sub (L' := [(2, (Value.pointer (some ⟨b1, 0, none⟩))), (3, (Value.pointer (some ⟨b2, 0, none⟩))), (4, (Value.pointer (some ⟨b3, 0, none⟩))), (5, (Value.pointer (some ⟨b4, 0, none⟩))), (6, (Value.int .i64 ((2 * m : Nat) : Int))), (20, (Value.bool (decide (((2 * m : Nat) : Int) < 256))))]) ⟨rfl, rfl, rfl, rfl, rfl, rfl, trivial⟩
      refine then_n ?_
      refine wp_ret ?_
      refine body_ret hF (results1 Try.results15 (RV.cellA Try.underlying26 rfl sz26 hF rfl (hM.at 2 rfl) (cl_size _ _ _))) ?_
      exact ⟨rfl, hM.below⟩

theorem zetag (m : Nat) (hm : m < 128) (w0 : World) : Calls Try.prog 37 (List.toArray [.int .i64 (2 * ((rb 7 m : Nat) : Int) + 1)]) w0 (Ret fun v w' => v = .int .i64 (gam m) ∧ Gr w0 w') := by
  have h := zeta_calls (n := 2 * rb 7 m + 1) (by have := rb7_lt m; omega) w0
  rw [pw_gam] at h
  exact h

set_option maxRecDepth 100000 in
theorem RMul_calls {F G : Nat → Int} (hf : U16 F) (hg : U16 G) (w0 : World) : Calls Try.prog 26 (List.toArray [.agg (cl .u16 256 F), .agg (cl .u16 256 G)]) w0 (Ret fun v w' => v = .agg (cl .u16 256 (sMul F G)) ∧ Gr w0 w') := by
  refine calls_of Try.func26 rfl Try.ntmps26 rfl fun a hF => ?_
  have hM := Mem.start w0
  have hF := hF.sub (L' := [(0, (Value.agg (cl .u16 256 F))), (1, (Value.agg (cl .u16 256 G)))]) ⟨rfl, rfl, trivial⟩
  refine wp_seq ?_
  refine wp_region_lit ?_
  refine wlR (ok_box rfl) rfl hF ?_
  rintro _ w a ⟨b1, rfl, hnb_⟩ hF
  have hM : Mem w0 w [(b1, cl .u16 256 F, 27)] := hM.alloc hnb_
  refine wlR (ok_box rfl) rfl hF ?_
  rintro _ w a ⟨b2, rfl, hnb_⟩ hF
  have hM : Mem w0 w [(b1, cl .u16 256 F, 27), (b2, cl .u16 256 G, 27)] := hM.alloc hnb_
  refine wlR (ok_alloc z27) rfl hF ?_
  rintro _ w a ⟨b3, rfl, hnb_⟩ hF
  have hM : Mem w0 w [(b1, cl .u16 256 F, 27), (b2, cl .u16 256 G, 27), (b3, cl .u16 256 fun _ => 0, 27)] := hM.alloc hnb_
  refine wl_nil ?_
  have hF := hF.sub (L' := [(0, (Value.agg (cl .u16 256 F))), (1, (Value.agg (cl .u16 256 G))), (2, (Value.pointer (some ⟨b1, 0, none⟩))), (3, (Value.pointer (some ⟨b2, 0, none⟩))), (4, (Value.pointer (some ⟨b3, 0, none⟩)))]) ⟨rfl, rfl, rfl, rfl, rfl, trivial⟩
  refine then_n ?_
  refine wp_seq ?_
  refine wp_region_lit ?_
  refine wlR (ok_alloc z27) rfl hF ?_
  rintro _ w a ⟨b4, rfl, hnb_⟩ hF
  have hM : Mem w0 w [(b1, cl .u16 256 F, 27), (b2, cl .u16 256 G, 27), (b3, cl .u16 256 fun _ => 0, 27), (b4, cl .u16 256 fun _ => 0, 27)] := hM.alloc hnb_
  refine wl_nil ?_
  have hF := hF.sub (L' := [(0, (Value.agg (cl .u16 256 F))), (1, (Value.agg (cl .u16 256 G))), (2, (Value.pointer (some ⟨b1, 0, none⟩))), (3, (Value.pointer (some ⟨b2, 0, none⟩))), (4, (Value.pointer (some ⟨b3, 0, none⟩))), (5, (Value.pointer (some ⟨b4, 0, none⟩)))]) ⟨rfl, rfl, rfl, rfl, rfl, rfl, trivial⟩
  refine then_n ?_
  refine wp_seq ?_
  refine wp_seq ?_
  refine wp_region_lit ?_
  refine wl (d_assign rfl) rfl hF (fun a hF => ?_)
  refine wl_nil ?_
  have hF := hF.sub (L' := [(0, (Value.agg (cl .u16 256 F))), (1, (Value.agg (cl .u16 256 G))), (2, (Value.pointer (some ⟨b1, 0, none⟩))), (3, (Value.pointer (some ⟨b2, 0, none⟩))), (4, (Value.pointer (some ⟨b3, 0, none⟩))), (5, (Value.pointer (some ⟨b4, 0, none⟩))), (6, (Value.int .i64 0))]) ⟨rfl, rfl, rfl, rfl, rfl, rfl, rfl, trivial⟩
  refine then_n ?_
  refine wp_block ?_
  refine wp_loop_k (fun fu_ a w => ∃ m : Nat, fu_ = 128 - m ∧ (m ≤ 128) ∧ Frm a 76 [(2, (Value.pointer (some ⟨b1, 0, none⟩))), (3, (Value.pointer (some ⟨b2, 0, none⟩))), (4, (Value.pointer (some ⟨b3, 0, none⟩))), (5, (Value.pointer (some ⟨b4, 0, none⟩))), (6, (Value.int .i64 (m : Int)))] ∧ Mem w0 w [(b1, cl .u16 256 F, 27), (b2, cl .u16 256 G, 27), (b3, cl .u16 256 fun _ => 0, 27), (b4, cl .u16 256 (to (2 * m) (sMul F G) (fun _ => 0)), 27)]) _ ⟨0, rfl, (by omega), hF.sub ⟨rfl, rfl, rfl, rfl, rfl, trivial⟩, ?_⟩ ?_
  · rw [Nat.mul_zero, to_zero]; exact hM
  rintro _ a w ⟨m, rfl, hl1_0, hF, hM⟩
  refine wp_seq ?_
  refine wp_seq ?_
  refine wp_region_lit ?_
  refine wl (d_move rfl) rfl hF (fun a hF => ?_)
  refine wl (d_lss rfl rfl) rfl hF (fun a hF => ?_)
  refine wl_nil ?_
  have hF := hF.sub (L' := [(2, (Value.pointer (some ⟨b1, 0, none⟩))), (3, (Value.pointer (some ⟨b2, 0, none⟩))), (4, (Value.pointer (some ⟨b3, 0, none⟩))), (5, (Value.pointer (some ⟨b4, 0, none⟩))), (6, (Value.int .i64 (m : Int))), (13, (Value.bool (decide ((m : Int) < 128))))]) ⟨rfl, rfl, rfl, rfl, rfl, rfl, trivial⟩
  refine then_n ?_
  refine wp_if hF rfl (fun h => ?_) (fun h => ?_)
  · have hlt := of_decide_eq_true h
    clear h
    have br := rb7_lt m
    have bg := gam_b m
    have uf0 := hf (2 * m) (by omega)
    have uf1 := hf (2 * m + 1) (by omega)
    have ug0 := hg (2 * m) (by omega)
    have ug1 := hg (2 * m + 1) (by omega)
    have bf0 := rd_red F (2 * m) (by omega)
    have bf1 := rd_red F (2 * m + 1) (by omega)
    have bg0 := rd_red G (2 * m) (by omega)
    have bg1 := rd_red G (2 * m + 1) (by omega)
    have m1 := mulb bf0 bg0
    have m2 := mulb bf1 bg1
    have m3 := mulb bf0 bg1
    have m4 := mulb bf1 bg0
    have m5 := mulb (x := rd F (2 * m + 1) * rd G (2 * m + 1) % 3329) (by omega) bg
    refine wp_skip ?_
    refine then_n ?_
    refine wp_seq ?_
    refine wp_block ?_
    refine wp_seq ?_
    refine wp_region_lit ?_
    refine wl (d_move rfl) rfl hF (fun a hF => ?_)
    refine wlR (ok_call c38 rfl (rev_calls (i := m) (by omega) _)) rfl hF ?_
    rintro _ w a ⟨rfl, hg⟩ hF
    have hM := hM.call hg
    refine wl (d_mul rfl rfl (wrap_i64 (by omega) (by omega))) rfl hF (fun a hF => ?_)
    refine wl (d_add rfl rfl (wrap_i64 (by omega) (by omega))) rfl hF (fun a hF => ?_)
    refine wlR (ok_call c37 rfl (zetag m (by omega) _)) rfl hF ?_
    rintro _ w a ⟨rfl, hg⟩ hF
    have hM := hM.call hg
    refine wl (d_assign rfl) rfl hF (fun a hF => ?_)
    refine wl_nil ?_
    have hF := hF.sub (L' := [(2, (Value.pointer (some ⟨b1, 0, none⟩))), (3, (Value.pointer (some ⟨b2, 0, none⟩))), (4, (Value.pointer (some ⟨b3, 0, none⟩))), (5, (Value.pointer (some ⟨b4, 0, none⟩))), (6, (Value.int .i64 (m : Int))), (7, (Value.int .i64 (gam m))), (13, (Value.bool (decide ((m : Int) < 128))))]) ⟨rfl, rfl, rfl, rfl, rfl, rfl, rfl, trivial⟩
    refine then_n ?_
    refine wp_seq ?_
    refine region_plan Tt mo (fun ph_ w => Mem w0 w (([[(b1, cl .u16 256 F, 27), (b2, cl .u16 256 G, 27), (b3, cl .u16 256 fun _ => 0, 27), (b4, cl .u16 256 (to (2 * m) (sMul F G) (fun _ => 0)), 27)]] : List (List Blk)).getD ph_ [])) [] (rows := [⟨[], [(6, (Value.int .i64 (m : Int)))], [0], .val (Value.int .i64 (m : Int))⟩, ⟨[(0, 21)], [], [0], .val (Value.int .i64 (2 * (m : Int)))⟩, ⟨[(1, 22)], [(2, (Value.pointer (some ⟨b1, 0, none⟩)))], [0], .val (Value.pointer (some ⟨b1, 2 * m, none⟩))⟩, ⟨[(2, 23)], [], [0], .val (Value.int .u16 (F (2 * m)))⟩, ⟨[(3, 24)], [], [0], .val (Value.int .i64 (F (2 * m)))⟩, ⟨[(4, 25)], [], [0], .val (Value.int .i64 (rd F (2 * m)))⟩, ⟨[], [(6, (Value.int .i64 (m : Int)))], [0], .val (Value.int .i64 (m : Int))⟩, ⟨[(6, 27)], [], [0], .val (Value.int .i64 (2 * (m : Int)))⟩, ⟨[(7, 28)], [], [0], .val (Value.int .i64 ((2 * (m : Int)) + 1))⟩, ⟨[(8, 29)], [(2, (Value.pointer (some ⟨b1, 0, none⟩)))], [0], .val (Value.pointer (some ⟨b1, 2 * m + 1, none⟩))⟩, ⟨[(9, 30)], [], [0], .val (Value.int .u16 (F (2 * m + 1)))⟩, ⟨[(10, 31)], [], [0], .val (Value.int .i64 (F (2 * m + 1)))⟩, ⟨[(11, 32)], [], [0], .val (Value.int .i64 (rd F (2 * m + 1)))⟩, ⟨[(5, 26)], [], [0], .val (Value.int .i64 (rd F (2 * m)))⟩, ⟨[(12, 33)], [], [0], .val (Value.int .i64 (rd F (2 * m + 1)))⟩]) (by kernel_rfl) hF hM.drew ?_ ?_
    · refine ⟨?_, ?_, ?_, ?_, ?_, ?_, ?_, ?_, ?_, ?_, ?_, ?_, ?_, ?_, ?_, trivial⟩
      · exact ⟨⟨rfl, trivial⟩, fun ph_ _ vs w hW _ => Det.ob hW (d_move rfl)⟩
      · exact ⟨trivial, fun ph_ _ vs w hW _ => Det.ob hW (d_mul rfl rfl (wrap_i64 (by omega) (by omega)))⟩
      · exact ⟨⟨rfl, trivial⟩, fun ph_ _ vs w hW _ => Det.ob hW (d_ixA0 (j := 2 * m) Try.underlying27 sz24 rfl rfl (by omega) (by omega))⟩
      · refine ⟨trivial, fun ph_ hp_ vs w hW _ => ?_⟩
        obtain rfl := memN_one hp_
        have hM : Mem w0 w [(b1, cl .u16 256 F, 27), (b2, cl .u16 256 G, 27), (b3, cl .u16 256 fun _ => 0, 27), (b4, cl .u16 256 (to (2 * m) (sMul F G) (fun _ => 0)), 27)] := hW
        exact Det.ob hW (d_load1 Try.underlying24 rfl rfl (hM.cell 0 rfl (cl_get (by omega))))
      · exact ⟨trivial, fun ph_ _ vs w hW _ => Det.ob hW (d_conv Try.underlying24 Try.underlying3 rfl (wrap_i64 (by omega) (by omega)))⟩
      · exact ⟨trivial, fun ph_ _ vs w hW _ => Det.ob hW (d_val (d_rem rfl rfl (by omega) (tmod_pos (by omega))) rfl)⟩
      · exact ⟨⟨rfl, trivial⟩, fun ph_ _ vs w hW _ => Det.ob hW (d_move rfl)⟩
      · exact ⟨trivial, fun ph_ _ vs w hW _ => Det.ob hW (d_mul rfl rfl (wrap_i64 (by omega) (by omega)))⟩
      · exact ⟨trivial, fun ph_ _ vs w hW _ => Det.ob hW (d_add rfl rfl (wrap_i64 (by omega) (by omega)))⟩
      · exact ⟨⟨rfl, trivial⟩, fun ph_ _ vs w hW _ => Det.ob hW (d_ixA0 (j := 2 * m + 1) Try.underlying27 sz24 rfl rfl (by omega) (by omega))⟩
      · refine ⟨trivial, fun ph_ hp_ vs w hW _ => ?_⟩
        obtain rfl := memN_one hp_
        have hM : Mem w0 w [(b1, cl .u16 256 F, 27), (b2, cl .u16 256 G, 27), (b3, cl .u16 256 fun _ => 0, 27), (b4, cl .u16 256 (to (2 * m) (sMul F G) (fun _ => 0)), 27)] := hW
        exact Det.ob hW (d_load1 Try.underlying24 rfl rfl (hM.cell 0 rfl (cl_get (by omega))))
      · exact ⟨trivial, fun ph_ _ vs w hW _ => Det.ob hW (d_conv Try.underlying24 Try.underlying3 rfl (wrap_i64 (by omega) (by omega)))⟩
      · exact ⟨trivial, fun ph_ _ vs w hW _ => Det.ob hW (d_val (d_rem rfl rfl (by omega) (tmod_pos (by omega))) rfl)⟩
      · exact ⟨trivial, fun ph_ _ vs w hW _ => Det.ob hW (d_assign rfl)⟩
      · exact ⟨trivial, fun ph_ _ vs w hW _ => Det.ob hW (d_assign rfl)⟩
    · intro a w vs hW _ hF
      have hM : Mem w0 w [(b1, cl .u16 256 F, 27), (b2, cl .u16 256 G, 27), (b3, cl .u16 256 fun _ => 0, 27), (b4, cl .u16 256 (to (2 * m) (sMul F G) (fun _ => 0)), 27)] := hW
      have hF := hF.sub (L' := [(2, (Value.pointer (some ⟨b1, 0, none⟩))), (3, (Value.pointer (some ⟨b2, 0, none⟩))), (4, (Value.pointer (some ⟨b3, 0, none⟩))), (5, (Value.pointer (some ⟨b4, 0, none⟩))), (6, (Value.int .i64 (m : Int))), (7, (Value.int .i64 (gam m))), (8, (Value.int .i64 (rd F (2 * m)))), (9, (Value.int .i64 (rd F (2 * m + 1)))), (13, (Value.bool (decide ((m : Int) < 128))))]) ⟨rfl, rfl, rfl, rfl, rfl, rfl, rfl, rfl, rfl, trivial⟩
      refine then_n ?_
      refine wp_seq ?_
      refine region_plan Tt mo (fun ph_ w => Mem w0 w (([[(b1, cl .u16 256 F, 27), (b2, cl .u16 256 G, 27), (b3, cl .u16 256 fun _ => 0, 27), (b4, cl .u16 256 (to (2 * m) (sMul F G) (fun _ => 0)), 27)]] : List (List Blk)).getD ph_ [])) [] (rows := [⟨[], [(6, (Value.int .i64 (m : Int)))], [0], .val (Value.int .i64 (m : Int))⟩, ⟨[(0, 34)], [], [0], .val (Value.int .i64 (2 * (m : Int)))⟩, ⟨[(1, 35)], [(3, (Value.pointer (some ⟨b2, 0, none⟩)))], [0], .val (Value.pointer (some ⟨b2, 2 * m, none⟩))⟩, ⟨[(2, 36)], [], [0], .val (Value.int .u16 (G (2 * m)))⟩, ⟨[(3, 37)], [], [0], .val (Value.int .i64 (G (2 * m)))⟩, ⟨[(4, 38)], [], [0], .val (Value.int .i64 (rd G (2 * m)))⟩, ⟨[], [(6, (Value.int .i64 (m : Int)))], [0], .val (Value.int .i64 (m : Int))⟩, ⟨[(6, 40)], [], [0], .val (Value.int .i64 (2 * (m : Int)))⟩, ⟨[(7, 41)], [], [0], .val (Value.int .i64 ((2 * (m : Int)) + 1))⟩, ⟨[(8, 42)], [(3, (Value.pointer (some ⟨b2, 0, none⟩)))], [0], .val (Value.pointer (some ⟨b2, 2 * m + 1, none⟩))⟩, ⟨[(9, 43)], [], [0], .val (Value.int .u16 (G (2 * m + 1)))⟩, ⟨[(10, 44)], [], [0], .val (Value.int .i64 (G (2 * m + 1)))⟩, ⟨[(11, 45)], [], [0], .val (Value.int .i64 (rd G (2 * m + 1)))⟩, ⟨[(5, 39)], [], [0], .val (Value.int .i64 (rd G (2 * m)))⟩, ⟨[(12, 46)], [], [0], .val (Value.int .i64 (rd G (2 * m + 1)))⟩]) (by kernel_rfl) hF hM.drew ?_ ?_
      · refine ⟨?_, ?_, ?_, ?_, ?_, ?_, ?_, ?_, ?_, ?_, ?_, ?_, ?_, ?_, ?_, trivial⟩
        · exact ⟨⟨rfl, trivial⟩, fun ph_ _ vs w hW _ => Det.ob hW (d_move rfl)⟩
        · exact ⟨trivial, fun ph_ _ vs w hW _ => Det.ob hW (d_mul rfl rfl (wrap_i64 (by omega) (by omega)))⟩
        · exact ⟨⟨rfl, trivial⟩, fun ph_ _ vs w hW _ => Det.ob hW (d_ixA0 (j := 2 * m) Try.underlying27 sz24 rfl rfl (by omega) (by omega))⟩
        · refine ⟨trivial, fun ph_ hp_ vs w hW _ => ?_⟩
          obtain rfl := memN_one hp_
          have hM : Mem w0 w [(b1, cl .u16 256 F, 27), (b2, cl .u16 256 G, 27), (b3, cl .u16 256 fun _ => 0, 27), (b4, cl .u16 256 (to (2 * m) (sMul F G) (fun _ => 0)), 27)] := hW
          exact Det.ob hW (d_load1 Try.underlying24 rfl rfl (hM.cell 1 rfl (cl_get (by omega))))
        · exact ⟨trivial, fun ph_ _ vs w hW _ => Det.ob hW (d_conv Try.underlying24 Try.underlying3 rfl (wrap_i64 (by omega) (by omega)))⟩
        · exact ⟨trivial, fun ph_ _ vs w hW _ => Det.ob hW (d_val (d_rem rfl rfl (by omega) (tmod_pos (by omega))) rfl)⟩
        · exact ⟨⟨rfl, trivial⟩, fun ph_ _ vs w hW _ => Det.ob hW (d_move rfl)⟩
        · exact ⟨trivial, fun ph_ _ vs w hW _ => Det.ob hW (d_mul rfl rfl (wrap_i64 (by omega) (by omega)))⟩
        · exact ⟨trivial, fun ph_ _ vs w hW _ => Det.ob hW (d_add rfl rfl (wrap_i64 (by omega) (by omega)))⟩
        · exact ⟨⟨rfl, trivial⟩, fun ph_ _ vs w hW _ => Det.ob hW (d_ixA0 (j := 2 * m + 1) Try.underlying27 sz24 rfl rfl (by omega) (by omega))⟩
        · refine ⟨trivial, fun ph_ hp_ vs w hW _ => ?_⟩
          obtain rfl := memN_one hp_
          have hM : Mem w0 w [(b1, cl .u16 256 F, 27), (b2, cl .u16 256 G, 27), (b3, cl .u16 256 fun _ => 0, 27), (b4, cl .u16 256 (to (2 * m) (sMul F G) (fun _ => 0)), 27)] := hW
          exact Det.ob hW (d_load1 Try.underlying24 rfl rfl (hM.cell 1 rfl (cl_get (by omega))))
        · exact ⟨trivial, fun ph_ _ vs w hW _ => Det.ob hW (d_conv Try.underlying24 Try.underlying3 rfl (wrap_i64 (by omega) (by omega)))⟩
        · exact ⟨trivial, fun ph_ _ vs w hW _ => Det.ob hW (d_val (d_rem rfl rfl (by omega) (tmod_pos (by omega))) rfl)⟩
        · exact ⟨trivial, fun ph_ _ vs w hW _ => Det.ob hW (d_assign rfl)⟩
        · exact ⟨trivial, fun ph_ _ vs w hW _ => Det.ob hW (d_assign rfl)⟩
      · intro a w vs hW _ hF
        have hM : Mem w0 w [(b1, cl .u16 256 F, 27), (b2, cl .u16 256 G, 27), (b3, cl .u16 256 fun _ => 0, 27), (b4, cl .u16 256 (to (2 * m) (sMul F G) (fun _ => 0)), 27)] := hW
        have hF := hF.sub (L' := [(2, (Value.pointer (some ⟨b1, 0, none⟩))), (3, (Value.pointer (some ⟨b2, 0, none⟩))), (4, (Value.pointer (some ⟨b3, 0, none⟩))), (5, (Value.pointer (some ⟨b4, 0, none⟩))), (6, (Value.int .i64 (m : Int))), (7, (Value.int .i64 (gam m))), (8, (Value.int .i64 (rd F (2 * m)))), (9, (Value.int .i64 (rd F (2 * m + 1)))), (10, (Value.int .i64 (rd G (2 * m)))), (11, (Value.int .i64 (rd G (2 * m + 1)))), (13, (Value.bool (decide ((m : Int) < 128))))]) ⟨rfl, rfl, rfl, rfl, rfl, rfl, rfl, rfl, rfl, rfl, rfl, trivial⟩
        refine then_n ?_
        refine wp_seq ?_
        refine wp_region_lit ?_
        refine wl (d_move rfl) rfl hF (fun a hF => ?_)
        refine wl (d_mul rfl rfl (wrap_i64 (by omega) (by omega))) rfl hF (fun a hF => ?_)
        refine wl (d_move rfl) rfl hF (fun a hF => ?_)
        refine wl (d_move rfl) rfl hF (fun a hF => ?_)
        refine wl (d_mul rfl rfl (wrap_i64 (by omega) (by omega))) rfl hF (fun a hF => ?_)
        refine wl (d_move rfl) rfl hF (fun a hF => ?_)
        refine wl (d_move rfl) rfl hF (fun a hF => ?_)
        refine wl (d_mul rfl rfl (wrap_i64 (by omega) (by omega))) rfl hF (fun a hF => ?_)
        refine wl (d_rem rfl rfl (by omega) (tmod_pos (by omega))) rfl hF (fun a hF => ?_)
        refine wl (d_move rfl) rfl hF (fun a hF => ?_)
        refine wl (d_mul rfl rfl (wrap_i64 (by omega) (by omega))) rfl hF (fun a hF => ?_)
        refine wl (d_add rfl rfl (wrap_i64 (by omega) (by omega))) rfl hF (fun a hF => ?_)
        refine wl (d_rem rfl rfl (by omega) (tmod_pos (by omega))) rfl hF (fun a hF => ?_)
        refine wl (d_conv Try.underlying3 Try.underlying24 rfl (wrap_u16 (by omega) (by omega))) rfl hF (fun a hF => ?_)
        refine wl (d_ixA0 (j := 2 * m) Try.underlying27 sz24 rfl rfl (by omega) (by omega)) rfl hF (fun a hF => ?_)
        refine wl0R (ok_store1 (v := (Value.int .u16 (((rd F (2 * m) * rd G (2 * m)) + (((rd F (2 * m + 1) * rd G (2 * m + 1)) % 3329) * gam m)) % 3329))) sz24 rfl rfl rfl (hM.at 3 rfl) (by rw [cl_size]; omega)) hF ?_
        rintro w a hu hF
        rw [cl_set] at hu
        have hM : Mem w0 w [(b1, cl .u16 256 F, 27), (b2, cl .u16 256 G, 27), (b3, cl .u16 256 fun _ => 0, 27), (b4, cl .u16 256 (upd (to (2 * m) (sMul F G) (fun _ => 0)) (2 * m) (((rd F (2 * m) * rd G (2 * m)) + (((rd F (2 * m + 1) * rd G (2 * m + 1)) % 3329) * gam m)) % 3329)), 27)] := hM.upd 3 rfl hu
        refine wl_nil ?_
        have hF := hF.sub (L' := [(2, (Value.pointer (some ⟨b1, 0, none⟩))), (3, (Value.pointer (some ⟨b2, 0, none⟩))), (4, (Value.pointer (some ⟨b3, 0, none⟩))), (5, (Value.pointer (some ⟨b4, 0, none⟩))), (6, (Value.int .i64 (m : Int))), (7, (Value.int .i64 (gam m))), (8, (Value.int .i64 (rd F (2 * m)))), (9, (Value.int .i64 (rd F (2 * m + 1)))), (10, (Value.int .i64 (rd G (2 * m)))), (11, (Value.int .i64 (rd G (2 * m + 1)))), (13, (Value.bool (decide ((m : Int) < 128))))]) ⟨rfl, rfl, rfl, rfl, rfl, rfl, rfl, rfl, rfl, rfl, rfl, trivial⟩
        refine then_n ?_
        refine wp_region_lit ?_
        refine wl (d_move rfl) rfl hF (fun a hF => ?_)
        refine wl (d_mul rfl rfl (wrap_i64 (by omega) (by omega))) rfl hF (fun a hF => ?_)
        refine wl (d_add rfl rfl (wrap_i64 (by omega) (by omega))) rfl hF (fun a hF => ?_)
        refine wl (d_move rfl) rfl hF (fun a hF => ?_)
        refine wl (d_move rfl) rfl hF (fun a hF => ?_)
        refine wl (d_mul rfl rfl (wrap_i64 (by omega) (by omega))) rfl hF (fun a hF => ?_)
        refine wl (d_move rfl) rfl hF (fun a hF => ?_)
        refine wl (d_move rfl) rfl hF (fun a hF => ?_)
        refine wl (d_mul rfl rfl (wrap_i64 (by omega) (by omega))) rfl hF (fun a hF => ?_)
        refine wl (d_add rfl rfl (wrap_i64 (by omega) (by omega))) rfl hF (fun a hF => ?_)
        refine wl (d_rem rfl rfl (by omega) (tmod_pos (by omega))) rfl hF (fun a hF => ?_)
        refine wl (d_conv Try.underlying3 Try.underlying24 rfl (wrap_u16 (by omega) (by omega))) rfl hF (fun a hF => ?_)
        refine wl (d_ixA0 (j := 2 * m + 1) Try.underlying27 sz24 rfl rfl (by omega) (by omega)) rfl hF (fun a hF => ?_)
        refine wl0R (ok_store1 (v := (Value.int .u16 (((rd F (2 * m) * rd G (2 * m + 1)) + (rd F (2 * m + 1) * rd G (2 * m))) % 3329))) sz24 rfl rfl rfl (hM.at 3 rfl) (by rw [cl_size]; omega)) hF ?_
        rintro w a hu hF
        rw [cl_set] at hu
        have hM : Mem w0 w [(b1, cl .u16 256 F, 27), (b2, cl .u16 256 G, 27), (b3, cl .u16 256 fun _ => 0, 27), (b4, cl .u16 256 (upd (upd (to (2 * m) (sMul F G) (fun _ => 0)) (2 * m) (((rd F (2 * m) * rd G (2 * m)) + (((rd F (2 * m + 1) * rd G (2 * m + 1)) % 3329) * gam m)) % 3329)) (2 * m + 1) (((rd F (2 * m) * rd G (2 * m + 1)) + (rd F (2 * m + 1) * rd G (2 * m))) % 3329)), 27)] := hM.upd 3 rfl hu
        refine wl_nil ?_
        have hF := hF.sub (L' := [(2, (Value.pointer (some ⟨b1, 0, none⟩))), (3, (Value.pointer (some ⟨b2, 0, none⟩))), (4, (Value.pointer (some ⟨b3, 0, none⟩))), (5, (Value.pointer (some ⟨b4, 0, none⟩))), (6, (Value.int .i64 (m : Int))), (7, (Value.int .i64 (gam m))), (8, (Value.int .i64 (rd F (2 * m)))), (9, (Value.int .i64 (rd F (2 * m + 1)))), (10, (Value.int .i64 (rd G (2 * m)))), (11, (Value.int .i64 (rd G (2 * m + 1)))), (13, (Value.bool (decide ((m : Int) < 128))))]) ⟨rfl, rfl, rfl, rfl, rfl, rfl, rfl, rfl, rfl, rfl, rfl, trivial⟩
        refine block_n ?_
        refine then_n ?_
        refine wp_region_lit ?_
        refine wl (d_move rfl) rfl hF (fun a hF => ?_)
        refine wl (d_add rfl rfl (wrap_i64 (by omega) (by omega))) rfl hF (fun a hF => ?_)
        refine wl (d_assign rfl) rfl hF (fun a hF => ?_)
        refine wl_nil ?_
        have hF := hF.sub (L' := [(2, (Value.pointer (some ⟨b1, 0, none⟩))), (3, (Value.pointer (some ⟨b2, 0, none⟩))), (4, (Value.pointer (some ⟨b3, 0, none⟩))), (5, (Value.pointer (some ⟨b4, 0, none⟩))), (6, (Value.int .i64 ((m : Int) + 1))), (7, (Value.int .i64 (gam m))), (8, (Value.int .i64 (rd F (2 * m)))), (9, (Value.int .i64 (rd F (2 * m + 1)))), (10, (Value.int .i64 (rd G (2 * m)))), (11, (Value.int .i64 (rd G (2 * m + 1)))), (13, (Value.bool (decide ((m : Int) < 128))))]) ⟨rfl, rfl, rfl, rfl, rfl, rfl, rfl, rfl, rfl, rfl, rfl, trivial⟩
        refine then_n ?_
        refine ⟨_, ?_, m + 1, rfl, (by omega), hF.sub ⟨rfl, rfl, rfl, rfl, rfl, trivial⟩, ?_⟩
        · omega
        rw [to_step2 (by rw [sMul_lo]) (by rw [sMul_hi])] at hM
        exact hM
  · have hlt := of_decide_eq_false h
    clear h
    have hm : m = 128 := by omega
    rw [show 2 * m = 256 by omega, to_all] at hM
    refine wp_exit ?_
    refine then_exit ?_
    refine then_exit ?_
    refine block_exit ?_
    refine then_n ?_
    refine wp_seq ?_
    refine wp_region_lit ?_
    refine wl (d_loadA Try.underlying27 rfl sz27 rfl (hM.at 3 rfl) (cl_size _ _ _)) rfl hF (fun a hF => ?_)
    refine wl0R (ok_storeA (c' := cl .u16 256 (sMul F G)) sz27 rfl rfl (cl_size _ _ _) (cl_one _ _ _) (hM.at 2 rfl) (cl_size _ _ _)) hF ?_
    rintro w a hu hF
    have hM : Mem w0 w [(b1, cl .u16 256 F, 27), (b2, cl .u16 256 G, 27), (b3, cl .u16 256 (sMul F G), 27), (b4, cl .u16 256 (sMul F G), 27)] := hM.upd 2 rfl hu
    refine wl_nil ?_
    have hF := hF.sub (L' := [(2, (Value.pointer (some ⟨b1, 0, none⟩))), (3, (Value.pointer (some ⟨b2, 0, none⟩))), (4, (Value.pointer (some ⟨b3, 0, none⟩))), (5, (Value.pointer (some ⟨b4, 0, none⟩))), (6, (Value.int .i64 (m : Int))), (13, (Value.bool (decide ((m : Int) < 128))))]) ⟨rfl, rfl, rfl, rfl, rfl, rfl, trivial⟩
    refine then_n ?_
    refine wp_ret ?_
    refine body_ret hF (results1 Try.results26 (RV.cellA Try.underlying27 rfl sz27 hF rfl (hM.at 2 rfl) (cl_size _ _ _))) ?_
    exact ⟨rfl, hM.below⟩

set_option maxRecDepth 100000 in
theorem Slow_calls {F G : Nat → Int} (hf : U16 F) (hg : U16 G) (w0 : World) : Calls Try.prog 16 (List.toArray [.agg (cl .u16 256 F), .agg (cl .u16 256 G)]) w0 (Ret fun v w' => v = .agg (cl .u16 256 (sSlow F G)) ∧ Gr w0 w') := by
  refine calls_of Try.func16 rfl Try.ntmps16 rfl fun a hF => ?_
  have hM := Mem.start w0
  have hF := hF.sub (L' := [(0, (Value.agg (cl .u16 256 F))), (1, (Value.agg (cl .u16 256 G)))]) ⟨rfl, rfl, trivial⟩
  refine wp_seq ?_
  refine wp_region_lit ?_
  refine wlR (ok_box rfl) rfl hF ?_
  rintro _ w a ⟨b1, rfl, hnb_⟩ hF
  have hM : Mem w0 w [(b1, cl .u16 256 F, 27)] := hM.alloc hnb_
  refine wlR (ok_box rfl) rfl hF ?_
  rintro _ w a ⟨b2, rfl, hnb_⟩ hF
  have hM : Mem w0 w [(b1, cl .u16 256 F, 27), (b2, cl .u16 256 G, 27)] := hM.alloc hnb_
  refine wlR (ok_alloc z27) rfl hF ?_
  rintro _ w a ⟨b3, rfl, hnb_⟩ hF
  have hM : Mem w0 w [(b1, cl .u16 256 F, 27), (b2, cl .u16 256 G, 27), (b3, cl .u16 256 fun _ => 0, 27)] := hM.alloc hnb_
  refine wl_nil ?_
  have hF := hF.sub (L' := [(0, (Value.agg (cl .u16 256 F))), (1, (Value.agg (cl .u16 256 G))), (2, (Value.pointer (some ⟨b1, 0, none⟩))), (3, (Value.pointer (some ⟨b2, 0, none⟩))), (4, (Value.pointer (some ⟨b3, 0, none⟩)))]) ⟨rfl, rfl, rfl, rfl, rfl, trivial⟩
  refine then_n ?_
  refine wp_seq ?_
  refine wp_region_lit ?_
  refine wlR (ok_alloc z57) rfl hF ?_
  rintro _ w a ⟨b4, rfl, hnb_⟩ hF
  have hM : Mem w0 w [(b1, cl .u16 256 F, 27), (b2, cl .u16 256 G, 27), (b3, cl .u16 256 fun _ => 0, 27), (b4, cl .i64 512 fun _ => 0, 57)] := hM.alloc hnb_
  refine wl_nil ?_
  have hF := hF.sub (L' := [(0, (Value.agg (cl .u16 256 F))), (1, (Value.agg (cl .u16 256 G))), (2, (Value.pointer (some ⟨b1, 0, none⟩))), (3, (Value.pointer (some ⟨b2, 0, none⟩))), (4, (Value.pointer (some ⟨b3, 0, none⟩))), (5, (Value.pointer (some ⟨b4, 0, none⟩)))]) ⟨rfl, rfl, rfl, rfl, rfl, rfl, trivial⟩
  refine then_n ?_
  refine wp_seq ?_
  refine wp_seq ?_
  refine wp_region_lit ?_
  refine wl (d_assign rfl) rfl hF (fun a hF => ?_)
  refine wl_nil ?_
  have hF := hF.sub (L' := [(0, (Value.agg (cl .u16 256 F))), (1, (Value.agg (cl .u16 256 G))), (2, (Value.pointer (some ⟨b1, 0, none⟩))), (3, (Value.pointer (some ⟨b2, 0, none⟩))), (4, (Value.pointer (some ⟨b3, 0, none⟩))), (5, (Value.pointer (some ⟨b4, 0, none⟩))), (6, (Value.int .i64 0))]) ⟨rfl, rfl, rfl, rfl, rfl, rfl, rfl, trivial⟩
  refine then_n ?_
  refine wp_block ?_
  refine wp_loop_k (fun fu_ a w => ∃ i : Nat, fu_ = 256 - i ∧ (i ≤ 256) ∧ Frm a 58 [(2, (Value.pointer (some ⟨b1, 0, none⟩))), (3, (Value.pointer (some ⟨b2, 0, none⟩))), (4, (Value.pointer (some ⟨b3, 0, none⟩))), (5, (Value.pointer (some ⟨b4, 0, none⟩))), (6, (Value.int .i64 (i : Int)))] ∧ Mem w0 w [(b1, cl .u16 256 F, 27), (b2, cl .u16 256 G, 27), (b3, cl .u16 256 fun _ => 0, 27), (b4, cl .i64 512 (cS F G i), 57)]) _ ⟨0, rfl, (by omega), hF.sub ⟨rfl, rfl, rfl, rfl, rfl, trivial⟩, ?_⟩ ?_
  · exact hM
  rintro _ a w ⟨i, rfl, hl1_0, hF, hM⟩
  refine wp_seq ?_
  refine wp_seq ?_
  refine wp_region_lit ?_
  refine wl (d_move rfl) rfl hF (fun a hF => ?_)
  refine wl (d_lss rfl rfl) rfl hF (fun a hF => ?_)
  refine wl_nil ?_
  have hF := hF.sub (L' := [(2, (Value.pointer (some ⟨b1, 0, none⟩))), (3, (Value.pointer (some ⟨b2, 0, none⟩))), (4, (Value.pointer (some ⟨b3, 0, none⟩))), (5, (Value.pointer (some ⟨b4, 0, none⟩))), (6, (Value.int .i64 (i : Int))), (11, (Value.bool (decide ((i : Int) < 256))))]) ⟨rfl, rfl, rfl, rfl, rfl, rfl, trivial⟩
  refine then_n ?_
  refine wp_if hF rfl (fun h => ?_) (fun h => ?_)
  · have h1 := of_decide_eq_true h
    clear h
    refine wp_skip ?_
    refine then_n ?_
    refine wp_seq ?_
    refine wp_block ?_
    refine wp_seq ?_
    refine wp_region_lit ?_
    refine wl (d_assign rfl) rfl hF (fun a hF => ?_)
    refine wl_nil ?_
    have hF := hF.sub (L' := [(2, (Value.pointer (some ⟨b1, 0, none⟩))), (3, (Value.pointer (some ⟨b2, 0, none⟩))), (4, (Value.pointer (some ⟨b3, 0, none⟩))), (5, (Value.pointer (some ⟨b4, 0, none⟩))), (6, (Value.int .i64 (i : Int))), (7, (Value.int .i64 0)), (11, (Value.bool (decide ((i : Int) < 256))))]) ⟨rfl, rfl, rfl, rfl, rfl, rfl, rfl, trivial⟩
    refine then_n ?_
    refine wp_block ?_
    refine wp_loop_k (fun fu_ a w => ∃ k : Nat, fu_ = 256 - k ∧ (k ≤ 256) ∧ Frm a 58 [(2, (Value.pointer (some ⟨b1, 0, none⟩))), (3, (Value.pointer (some ⟨b2, 0, none⟩))), (4, (Value.pointer (some ⟨b3, 0, none⟩))), (5, (Value.pointer (some ⟨b4, 0, none⟩))), (6, (Value.int .i64 (i : Int))), (7, (Value.int .i64 (k : Int)))] ∧ Mem w0 w [(b1, cl .u16 256 F, 27), (b2, cl .u16 256 G, 27), (b3, cl .u16 256 fun _ => 0, 27), (b4, cl .i64 512 (cRow F G i k (cS F G i)), 57)]) _ ⟨0, rfl, (by omega), hF.sub ⟨rfl, rfl, rfl, rfl, rfl, rfl, trivial⟩, ?_⟩ ?_
    · rw [cRow_zero]; exact hM
    rintro _ a w ⟨k, rfl, hl2_0, hF, hM⟩
    refine wp_seq ?_
    refine wp_seq ?_
    refine wp_region_lit ?_
    refine wl (d_move rfl) rfl hF (fun a hF => ?_)
    refine wl (d_lss rfl rfl) rfl hF (fun a hF => ?_)
    refine wl_nil ?_
    have hF := hF.sub (L' := [(2, (Value.pointer (some ⟨b1, 0, none⟩))), (3, (Value.pointer (some ⟨b2, 0, none⟩))), (4, (Value.pointer (some ⟨b3, 0, none⟩))), (5, (Value.pointer (some ⟨b4, 0, none⟩))), (6, (Value.int .i64 (i : Int))), (7, (Value.int .i64 (k : Int))), (15, (Value.bool (decide ((k : Int) < 256))))]) ⟨rfl, rfl, rfl, rfl, rfl, rfl, rfl, trivial⟩
    refine then_n ?_
    refine wp_if hF rfl (fun h => ?_) (fun h => ?_)
    · have h2 := of_decide_eq_true h
      clear h
      have e1 := cRow_at F G i k (cS F G i)
      have bC := cS_b F G i (i + k)
      have uf := hf i (by omega)
      have ug := hg k (by omega)
      have bm := mulb (x := F i % 3329) (y := G k % 3329) (by omega) (by omega)
      refine wp_skip ?_
      refine then_n ?_
      refine wp_seq ?_
      refine wp_block ?_
      refine region_plan Tt mo (fun ph_ w => Mem w0 w (([[(b1, cl .u16 256 F, 27), (b2, cl .u16 256 G, 27), (b3, cl .u16 256 fun _ => 0, 27), (b4, cl .i64 512 (cRow F G i k (cS F G i)), 57)], [(b1, cl .u16 256 F, 27), (b2, cl .u16 256 G, 27), (b3, cl .u16 256 fun _ => 0, 27), (b4, cl .i64 512 (upd (cRow F G i k (cS F G i)) (i + k) (((cRow F G i k (cS F G i)) (i + k) + ((F i % 3329) * (G k % 3329))) % 3329)), 57)]] : List (List Blk)).getD ph_ [])) [22] (rows := [⟨[], [(6, (Value.int .i64 (i : Int)))], [0], .val (Value.int .i64 (i : Int))⟩, ⟨[], [(7, (Value.int .i64 (k : Int)))], [0], .val (Value.int .i64 (k : Int))⟩, ⟨[(0, 18), (1, 19)], [], [0], .val (Value.int .i64 ((i : Int) + (k : Int)))⟩, ⟨[], [(6, (Value.int .i64 (i : Int)))], [0], .val (Value.int .i64 (i : Int))⟩, ⟨[], [(7, (Value.int .i64 (k : Int)))], [0], .val (Value.int .i64 (k : Int))⟩, ⟨[(3, 21), (4, 22)], [], [0], .val (Value.int .i64 ((i : Int) + (k : Int)))⟩, ⟨[(5, 23)], [(5, (Value.pointer (some ⟨b4, 0, none⟩)))], [0], .val (Value.pointer (some ⟨b4, i + k, none⟩))⟩, ⟨[(6, 24)], [], [0], .val (Value.int .i64 ((cRow F G i k (cS F G i)) (i + k)))⟩, ⟨[], [(6, (Value.int .i64 (i : Int)))], [0], .val (Value.int .i64 (i : Int))⟩, ⟨[(8, 26)], [(2, (Value.pointer (some ⟨b1, 0, none⟩)))], [0], .val (Value.pointer (some ⟨b1, i, none⟩))⟩, ⟨[(9, 27)], [], [0], .val (Value.int .u16 (F i))⟩, ⟨[(10, 28)], [], [0], .val (Value.int .i64 (F i))⟩, ⟨[(11, 29)], [], [0], .val (Value.int .i64 (F i % 3329))⟩, ⟨[], [(7, (Value.int .i64 (k : Int)))], [0], .val (Value.int .i64 (k : Int))⟩, ⟨[(13, 31)], [(3, (Value.pointer (some ⟨b2, 0, none⟩)))], [0], .val (Value.pointer (some ⟨b2, k, none⟩))⟩, ⟨[(14, 32)], [], [0], .val (Value.int .u16 (G k))⟩, ⟨[(15, 33)], [], [0], .val (Value.int .i64 (G k))⟩, ⟨[(16, 34)], [], [0], .val (Value.int .i64 (G k % 3329))⟩, ⟨[(12, 30), (17, 35)], [], [0], .val (Value.int .i64 ((F i % 3329) * (G k % 3329)))⟩, ⟨[(7, 25), (18, 36)], [], [0], .val (Value.int .i64 ((cRow F G i k (cS F G i)) (i + k) + ((F i % 3329) * (G k % 3329))))⟩, ⟨[(19, 37)], [], [0], .val (Value.int .i64 (((cRow F G i k (cS F G i)) (i + k) + ((F i % 3329) * (G k % 3329))) % 3329))⟩, ⟨[(2, 20)], [(5, (Value.pointer (some ⟨b4, 0, none⟩)))], [0], .val (Value.pointer (some ⟨b4, i + k, none⟩))⟩, ⟨[(21, 39), (20, 38)], [], [0], .rel (fun _ _ => True) (fun _ _ _ _ _ => trivial)⟩]) (by kernel_rfl) hF hM.drew ?_ ?_
      · refine ⟨?_, ?_, ?_, ?_, ?_, ?_, ?_, ?_, ?_, ?_, ?_, ?_, ?_, ?_, ?_, ?_, ?_, ?_, ?_, ?_, ?_, ?_, ?_, trivial⟩
        · exact ⟨⟨rfl, trivial⟩, fun ph_ _ vs w hW _ => Det.ob hW (d_move rfl)⟩
        · exact ⟨⟨rfl, trivial⟩, fun ph_ _ vs w hW _ => Det.ob hW (d_move rfl)⟩
        · exact ⟨trivial, fun ph_ _ vs w hW _ => Det.ob hW (d_add rfl rfl (wrap_i64 (by omega) (by omega)))⟩
        · exact ⟨⟨rfl, trivial⟩, fun ph_ _ vs w hW _ => Det.ob hW (d_move rfl)⟩
        · exact ⟨⟨rfl, trivial⟩, fun ph_ _ vs w hW _ => Det.ob hW (d_move rfl)⟩
        · exact ⟨trivial, fun ph_ _ vs w hW _ => Det.ob hW (d_add rfl rfl (wrap_i64 (by omega) (by omega)))⟩
        · exact ⟨⟨rfl, trivial⟩, fun ph_ _ vs w hW _ => Det.ob hW (d_ixA0 (j := i + k) Try.underlying57 sz3 rfl rfl rfl (by omega))⟩
        · refine ⟨trivial, fun ph_ hp_ vs w hW _ => ?_⟩
          obtain rfl := memN_one hp_
          have hM : Mem w0 w [(b1, cl .u16 256 F, 27), (b2, cl .u16 256 G, 27), (b3, cl .u16 256 fun _ => 0, 27), (b4, cl .i64 512 (cRow F G i k (cS F G i)), 57)] := hW
          exact Det.ob hW (d_load1 Try.underlying3 rfl rfl (hM.cell 3 rfl (cl_get (by omega))))
        · exact ⟨⟨rfl, trivial⟩, fun ph_ _ vs w hW _ => Det.ob hW (d_move rfl)⟩
        · exact ⟨⟨rfl, trivial⟩, fun ph_ _ vs w hW _ => Det.ob hW (d_ixA0 (j := i) Try.underlying27 sz24 rfl rfl rfl (by omega))⟩
        · refine ⟨trivial, fun ph_ hp_ vs w hW _ => ?_⟩
          obtain rfl := memN_one hp_
          have hM : Mem w0 w [(b1, cl .u16 256 F, 27), (b2, cl .u16 256 G, 27), (b3, cl .u16 256 fun _ => 0, 27), (b4, cl .i64 512 (cRow F G i k (cS F G i)), 57)] := hW
          exact Det.ob hW (d_load1 Try.underlying24 rfl rfl (hM.cell 0 rfl (cl_get (by omega))))
        · exact ⟨trivial, fun ph_ _ vs w hW _ => Det.ob hW (d_conv Try.underlying24 Try.underlying3 rfl (wrap_i64 (by omega) (by omega)))⟩
        · exact ⟨trivial, fun ph_ _ vs w hW _ => Det.ob hW (d_rem rfl rfl (by omega) (tmod_pos (by omega)))⟩
        · exact ⟨⟨rfl, trivial⟩, fun ph_ _ vs w hW _ => Det.ob hW (d_move rfl)⟩
        · exact ⟨⟨rfl, trivial⟩, fun ph_ _ vs w hW _ => Det.ob hW (d_ixA0 (j := k) Try.underlying27 sz24 rfl rfl rfl (by omega))⟩
        · refine ⟨trivial, fun ph_ hp_ vs w hW _ => ?_⟩
          obtain rfl := memN_one hp_
          have hM : Mem w0 w [(b1, cl .u16 256 F, 27), (b2, cl .u16 256 G, 27), (b3, cl .u16 256 fun _ => 0, 27), (b4, cl .i64 512 (cRow F G i k (cS F G i)), 57)] := hW
          exact Det.ob hW (d_load1 Try.underlying24 rfl rfl (hM.cell 1 rfl (cl_get (by omega))))
        · exact ⟨trivial, fun ph_ _ vs w hW _ => Det.ob hW (d_conv Try.underlying24 Try.underlying3 rfl (wrap_i64 (by omega) (by omega)))⟩
        · exact ⟨trivial, fun ph_ _ vs w hW _ => Det.ob hW (d_rem rfl rfl (by omega) (tmod_pos (by omega)))⟩
        · exact ⟨trivial, fun ph_ _ vs w hW _ => Det.ob hW (d_mul rfl rfl (wrap_i64 (by omega) (by omega)))⟩
        · exact ⟨trivial, fun ph_ _ vs w hW _ => Det.ob hW (d_add rfl rfl (wrap_i64 (by omega) (by omega)))⟩
        · exact ⟨trivial, fun ph_ _ vs w hW _ => Det.ob hW (d_rem rfl rfl (by omega) (tmod_pos (by omega)))⟩
        · exact ⟨⟨rfl, trivial⟩, fun ph_ _ vs w hW _ => Det.ob hW (d_ixA0 (j := i + k) Try.underlying57 sz3 rfl rfl rfl (by omega))⟩
        · refine ⟨trivial, fun ph_ hp_ vs w hW _ => ?_⟩
          obtain rfl := memN_one hp_
          have hM : Mem w0 w [(b1, cl .u16 256 F, 27), (b2, cl .u16 256 G, 27), (b3, cl .u16 256 fun _ => 0, 27), (b4, cl .i64 512 (cRow F G i k (cS F G i)), 57)] := hW
          exact Ok1.obs (fun w' hu => by rw [cl_set] at hu; exact hM.upd 3 rfl hu) (ok_store1 (v := (Value.int .i64 (((cRow F G i k (cS F G i)) (i + k) + ((F i % 3329) * (G k % 3329))) % 3329))) sz3 rfl rfl rfl (hM.at 3 rfl) (by rw [cl_size]; omega))
      · intro a w vs hW _ hF
        have hM : Mem w0 w [(b1, cl .u16 256 F, 27), (b2, cl .u16 256 G, 27), (b3, cl .u16 256 fun _ => 0, 27), (b4, cl .i64 512 (upd (cRow F G i k (cS F G i)) (i + k) (((cRow F G i k (cS F G i)) (i + k) + ((F i % 3329) * (G k % 3329))) % 3329)), 57)] := hW
        have hF := hF.sub (L' := [(2, (Value.pointer (some ⟨b1, 0, none⟩))), (3, (Value.pointer (some ⟨b2, 0, none⟩))), (4, (Value.pointer (some ⟨b3, 0, none⟩))), (5, (Value.pointer (some ⟨b4, 0, none⟩))), (6, (Value.int .i64 (i : Int))), (7, (Value.int .i64 (k : Int))), (15, (Value.bool (decide ((k : Int) < 256))))]) ⟨rfl, rfl, rfl, rfl, rfl, rfl, rfl, trivial⟩
        refine block_n ?_
        refine then_n ?_
        refine wp_region_lit ?_
        refine wl (d_move rfl) rfl hF (fun a hF => ?_)
        refine wl (d_add rfl rfl (wrap_i64 (by omega) (by omega))) rfl hF (fun a hF => ?_)
        refine wl (d_assign rfl) rfl hF (fun a hF => ?_)
        refine wl_nil ?_
        have hF := hF.sub (L' := [(2, (Value.pointer (some ⟨b1, 0, none⟩))), (3, (Value.pointer (some ⟨b2, 0, none⟩))), (4, (Value.pointer (some ⟨b3, 0, none⟩))), (5, (Value.pointer (some ⟨b4, 0, none⟩))), (6, (Value.int .i64 (i : Int))), (7, (Value.int .i64 ((k : Int) + 1))), (15, (Value.bool (decide ((k : Int) < 256))))]) ⟨rfl, rfl, rfl, rfl, rfl, rfl, rfl, trivial⟩
        refine then_n ?_
        refine ⟨_, ?_, k + 1, rfl, (by omega), hF.sub ⟨rfl, rfl, rfl, rfl, rfl, rfl, trivial⟩, ?_⟩
        · omega
        rw [cRow_step (by rw [e1])] at hM
        exact hM
    · have h2 := of_decide_eq_false h
      clear h
      have hk : k = 256 := by omega
      rw [hk] at hM
      refine wp_exit ?_
      refine then_exit ?_
      refine then_exit ?_
      refine block_exit ?_
      refine block_n ?_
      refine then_n ?_
      refine wp_region_lit ?_
      refine wl (d_move rfl) rfl hF (fun a hF => ?_)
      refine wl (d_add rfl rfl (wrap_i64 (by omega) (by omega))) rfl hF (fun a hF => ?_)
      refine wl (d_assign rfl) rfl hF (fun a hF => ?_)
      refine wl_nil ?_
      have hF := hF.sub (L' := [(2, (Value.pointer (some ⟨b1, 0, none⟩))), (3, (Value.pointer (some ⟨b2, 0, none⟩))), (4, (Value.pointer (some ⟨b3, 0, none⟩))), (5, (Value.pointer (some ⟨b4, 0, none⟩))), (6, (Value.int .i64 ((i : Int) + 1))), (7, (Value.int .i64 (k : Int))), (15, (Value.bool (decide ((k : Int) < 256))))]) ⟨rfl, rfl, rfl, rfl, rfl, rfl, rfl, trivial⟩
      refine then_n ?_
      refine ⟨_, ?_, i + 1, rfl, (by omega), hF.sub ⟨rfl, rfl, rfl, rfl, rfl, trivial⟩, ?_⟩
      · omega
      exact hM
  · have h1 := of_decide_eq_false h
    clear h
    have hi : i = 256 := by omega
    rw [hi] at hM
    refine wp_exit ?_
    refine then_exit ?_
    refine then_exit ?_
    refine block_exit ?_
    refine then_n ?_
    refine wp_seq ?_
    refine wp_region_lit ?_
    refine wlR (ok_alloc z27) rfl hF ?_
    rintro _ w a ⟨b5, rfl, hnb_⟩ hF
    have hM : Mem w0 w [(b1, cl .u16 256 F, 27), (b2, cl .u16 256 G, 27), (b3, cl .u16 256 fun _ => 0, 27), (b4, cl .i64 512 (cS F G 256), 57), (b5, cl .u16 256 fun _ => 0, 27)] := hM.alloc hnb_
    refine wl_nil ?_
    have hF := hF.sub (L' := [(2, (Value.pointer (some ⟨b1, 0, none⟩))), (3, (Value.pointer (some ⟨b2, 0, none⟩))), (4, (Value.pointer (some ⟨b3, 0, none⟩))), (5, (Value.pointer (some ⟨b4, 0, none⟩))), (6, (Value.int .i64 (i : Int))), (8, (Value.pointer (some ⟨b5, 0, none⟩))), (11, (Value.bool (decide ((i : Int) < 256))))]) ⟨rfl, rfl, rfl, rfl, rfl, rfl, rfl, trivial⟩
    refine then_n ?_
    refine wp_seq ?_
    refine wp_seq ?_
    refine wp_region_lit ?_
    refine wl (d_assign rfl) rfl hF (fun a hF => ?_)
    refine wl_nil ?_
    have hF := hF.sub (L' := [(2, (Value.pointer (some ⟨b1, 0, none⟩))), (3, (Value.pointer (some ⟨b2, 0, none⟩))), (4, (Value.pointer (some ⟨b3, 0, none⟩))), (5, (Value.pointer (some ⟨b4, 0, none⟩))), (6, (Value.int .i64 (i : Int))), (8, (Value.pointer (some ⟨b5, 0, none⟩))), (9, (Value.int .i64 0)), (11, (Value.bool (decide ((i : Int) < 256))))]) ⟨rfl, rfl, rfl, rfl, rfl, rfl, rfl, rfl, trivial⟩
    refine then_n ?_
    refine wp_block ?_
    refine wp_loop_k (fun fu_ a w => ∃ i : Nat, fu_ = 256 - i ∧ (i ≤ 256) ∧ Frm a 58 [(2, (Value.pointer (some ⟨b1, 0, none⟩))), (3, (Value.pointer (some ⟨b2, 0, none⟩))), (4, (Value.pointer (some ⟨b3, 0, none⟩))), (5, (Value.pointer (some ⟨b4, 0, none⟩))), (8, (Value.pointer (some ⟨b5, 0, none⟩))), (9, (Value.int .i64 (i : Int)))] ∧ Mem w0 w [(b1, cl .u16 256 F, 27), (b2, cl .u16 256 G, 27), (b3, cl .u16 256 fun _ => 0, 27), (b4, cl .i64 512 (cS F G 256), 57), (b5, cl .u16 256 (to i (sSlow F G) (fun _ => 0)), 27)]) _ ⟨0, rfl, (by omega), hF.sub ⟨rfl, rfl, rfl, rfl, rfl, rfl, trivial⟩, ?_⟩ ?_
    · rw [to_zero]; exact hM
    rintro _ a w ⟨i, rfl, hl3_0, hF, hM⟩
    refine wp_seq ?_
    refine wp_seq ?_
    refine wp_region_lit ?_
    refine wl (d_move rfl) rfl hF (fun a hF => ?_)
    refine wl (d_lss rfl rfl) rfl hF (fun a hF => ?_)
    refine wl_nil ?_
    have hF := hF.sub (L' := [(2, (Value.pointer (some ⟨b1, 0, none⟩))), (3, (Value.pointer (some ⟨b2, 0, none⟩))), (4, (Value.pointer (some ⟨b3, 0, none⟩))), (5, (Value.pointer (some ⟨b4, 0, none⟩))), (8, (Value.pointer (some ⟨b5, 0, none⟩))), (9, (Value.int .i64 (i : Int))), (41, (Value.bool (decide ((i : Int) < 256))))]) ⟨rfl, rfl, rfl, rfl, rfl, rfl, rfl, trivial⟩
    refine then_n ?_
    refine wp_if hF rfl (fun h => ?_) (fun h => ?_)
    · have h3 := of_decide_eq_true h
      clear h
      have b1_ := cS_b F G 256 i
      have b2_ := cS_b F G 256 (i + 256)
      refine wp_skip ?_
      refine then_n ?_
      refine wp_seq ?_
      refine wp_block ?_
      refine region_plan Tt mo (fun ph_ w => Mem w0 w (([[(b1, cl .u16 256 F, 27), (b2, cl .u16 256 G, 27), (b3, cl .u16 256 fun _ => 0, 27), (b4, cl .i64 512 (cS F G 256), 57), (b5, cl .u16 256 (to i (sSlow F G) (fun _ => 0)), 27)], [(b1, cl .u16 256 F, 27), (b2, cl .u16 256 G, 27), (b3, cl .u16 256 fun _ => 0, 27), (b4, cl .i64 512 (cS F G 256), 57), (b5, cl .u16 256 (upd (to i (sSlow F G) (fun _ => 0)) i ((((cS F G 256) i + 3329) - (cS F G 256) (i + 256)) % 3329)), 27)]] : List (List Blk)).getD ph_ [])) [13] (rows := [⟨[], [(9, (Value.int .i64 (i : Int)))], [0], .val (Value.int .i64 (i : Int))⟩, ⟨[], [(9, (Value.int .i64 (i : Int)))], [0], .val (Value.int .i64 (i : Int))⟩, ⟨[(1, 45)], [(5, (Value.pointer (some ⟨b4, 0, none⟩)))], [0], .val (Value.pointer (some ⟨b4, i, none⟩))⟩, ⟨[(2, 46)], [], [0], .val (Value.int .i64 ((cS F G 256) i))⟩, ⟨[(3, 47)], [], [0], .val (Value.int .i64 ((cS F G 256) i + 3329))⟩, ⟨[], [(9, (Value.int .i64 (i : Int)))], [0], .val (Value.int .i64 (i : Int))⟩, ⟨[(5, 49)], [], [0], .val (Value.int .i64 ((i : Int) + 256))⟩, ⟨[(6, 50)], [(5, (Value.pointer (some ⟨b4, 0, none⟩)))], [0], .val (Value.pointer (some ⟨b4, i + 256, none⟩))⟩, ⟨[(7, 51)], [], [0], .val (Value.int .i64 ((cS F G 256) (i + 256)))⟩, ⟨[(4, 48), (8, 52)], [], [0], .val (Value.int .i64 (((cS F G 256) i + 3329) - (cS F G 256) (i + 256)))⟩, ⟨[(9, 53)], [], [0], .val (Value.int .i64 ((((cS F G 256) i + 3329) - (cS F G 256) (i + 256)) % 3329))⟩, ⟨[(10, 54)], [], [0], .val (Value.int .u16 ((((cS F G 256) i + 3329) - (cS F G 256) (i + 256)) % 3329))⟩, ⟨[(0, 44)], [(8, (Value.pointer (some ⟨b5, 0, none⟩)))], [0], .val (Value.pointer (some ⟨b5, i, none⟩))⟩, ⟨[(12, 56), (11, 55)], [], [0], .rel (fun _ _ => True) (fun _ _ _ _ _ => trivial)⟩]) (by kernel_rfl) hF hM.drew ?_ ?_
      · refine ⟨?_, ?_, ?_, ?_, ?_, ?_, ?_, ?_, ?_, ?_, ?_, ?_, ?_, ?_, trivial⟩
        · exact ⟨⟨rfl, trivial⟩, fun ph_ _ vs w hW _ => Det.ob hW (d_move rfl)⟩
        · exact ⟨⟨rfl, trivial⟩, fun ph_ _ vs w hW _ => Det.ob hW (d_move rfl)⟩
        · exact ⟨⟨rfl, trivial⟩, fun ph_ _ vs w hW _ => Det.ob hW (d_ixA0 (j := i) Try.underlying57 sz3 rfl rfl rfl (by omega))⟩
        · refine ⟨trivial, fun ph_ hp_ vs w hW _ => ?_⟩
          obtain rfl := memN_one hp_
          have hM : Mem w0 w [(b1, cl .u16 256 F, 27), (b2, cl .u16 256 G, 27), (b3, cl .u16 256 fun _ => 0, 27), (b4, cl .i64 512 (cS F G 256), 57), (b5, cl .u16 256 (to i (sSlow F G) (fun _ => 0)), 27)] := hW
          exact Det.ob hW (d_load1 Try.underlying3 rfl rfl (hM.cell 3 rfl (cl_get (by omega))))
        · exact ⟨trivial, fun ph_ _ vs w hW _ => Det.ob hW (d_add rfl rfl (wrap_i64 (by omega) (by omega)))⟩
        · exact ⟨⟨rfl, trivial⟩, fun ph_ _ vs w hW _ => Det.ob hW (d_move rfl)⟩
        · exact ⟨trivial, fun ph_ _ vs w hW _ => Det.ob hW (d_add rfl rfl (wrap_i64 (by omega) (by omega)))⟩
        · exact ⟨⟨rfl, trivial⟩, fun ph_ _ vs w hW _ => Det.ob hW (d_ixA0 (j := i + 256) Try.underlying57 sz3 rfl rfl rfl (by omega))⟩
        · refine ⟨trivial, fun ph_ hp_ vs w hW _ => ?_⟩
          obtain rfl := memN_one hp_
          have hM : Mem w0 w [(b1, cl .u16 256 F, 27), (b2, cl .u16 256 G, 27), (b3, cl .u16 256 fun _ => 0, 27), (b4, cl .i64 512 (cS F G 256), 57), (b5, cl .u16 256 (to i (sSlow F G) (fun _ => 0)), 27)] := hW
          exact Det.ob hW (d_load1 Try.underlying3 rfl rfl (hM.cell 3 rfl (cl_get (by omega))))
        · exact ⟨trivial, fun ph_ _ vs w hW _ => Det.ob hW (d_sub rfl rfl (wrap_i64 (by omega) (by omega)))⟩
        · exact ⟨trivial, fun ph_ _ vs w hW _ => Det.ob hW (d_rem rfl rfl (by omega) (tmod_pos (by omega)))⟩
        · exact ⟨trivial, fun ph_ _ vs w hW _ => Det.ob hW (d_conv Try.underlying3 Try.underlying24 rfl (wrap_u16 (by omega) (by omega)))⟩
        · exact ⟨⟨rfl, trivial⟩, fun ph_ _ vs w hW _ => Det.ob hW (d_ixA0 (j := i) Try.underlying27 sz24 rfl rfl rfl (by omega))⟩
        · refine ⟨trivial, fun ph_ hp_ vs w hW _ => ?_⟩
          obtain rfl := memN_one hp_
          have hM : Mem w0 w [(b1, cl .u16 256 F, 27), (b2, cl .u16 256 G, 27), (b3, cl .u16 256 fun _ => 0, 27), (b4, cl .i64 512 (cS F G 256), 57), (b5, cl .u16 256 (to i (sSlow F G) (fun _ => 0)), 27)] := hW
          exact Ok1.obs (fun w' hu => by rw [cl_set] at hu; exact hM.upd 4 rfl hu) (ok_store1 (v := (Value.int .u16 ((((cS F G 256) i + 3329) - (cS F G 256) (i + 256)) % 3329))) sz24 rfl rfl rfl (hM.at 4 rfl) (by rw [cl_size]; omega))
      · intro a w vs hW _ hF
        have hM : Mem w0 w [(b1, cl .u16 256 F, 27), (b2, cl .u16 256 G, 27), (b3, cl .u16 256 fun _ => 0, 27), (b4, cl .i64 512 (cS F G 256), 57), (b5, cl .u16 256 (upd (to i (sSlow F G) (fun _ => 0)) i ((((cS F G 256) i + 3329) - (cS F G 256) (i + 256)) % 3329)), 27)] := hW
        have hF := hF.sub (L' := [(2, (Value.pointer (some ⟨b1, 0, none⟩))), (3, (Value.pointer (some ⟨b2, 0, none⟩))), (4, (Value.pointer (some ⟨b3, 0, none⟩))), (5, (Value.pointer (some ⟨b4, 0, none⟩))), (8, (Value.pointer (some ⟨b5, 0, none⟩))), (9, (Value.int .i64 (i : Int))), (41, (Value.bool (decide ((i : Int) < 256))))]) ⟨rfl, rfl, rfl, rfl, rfl, rfl, rfl, trivial⟩
        refine block_n ?_
        refine then_n ?_
        refine wp_region_lit ?_
        refine wl (d_move rfl) rfl hF (fun a hF => ?_)
        refine wl (d_add rfl rfl (wrap_i64 (by omega) (by omega))) rfl hF (fun a hF => ?_)
        refine wl (d_assign rfl) rfl hF (fun a hF => ?_)
        refine wl_nil ?_
        have hF := hF.sub (L' := [(2, (Value.pointer (some ⟨b1, 0, none⟩))), (3, (Value.pointer (some ⟨b2, 0, none⟩))), (4, (Value.pointer (some ⟨b3, 0, none⟩))), (5, (Value.pointer (some ⟨b4, 0, none⟩))), (8, (Value.pointer (some ⟨b5, 0, none⟩))), (9, (Value.int .i64 ((i : Int) + 1))), (41, (Value.bool (decide ((i : Int) < 256))))]) ⟨rfl, rfl, rfl, rfl, rfl, rfl, rfl, trivial⟩
        refine then_n ?_
        refine ⟨_, ?_, i + 1, rfl, (by omega), hF.sub ⟨rfl, rfl, rfl, rfl, rfl, rfl, trivial⟩, ?_⟩
        · omega
        rw [to_step (H := sSlow F G) (by rfl)] at hM
        exact hM
    · have h3 := of_decide_eq_false h
      clear h
      have hi : i = 256 := by omega
      rw [hi, to_all] at hM
      refine wp_exit ?_
      refine then_exit ?_
      refine then_exit ?_
      refine block_exit ?_
      refine then_n ?_
      refine wp_seq ?_
      refine wp_region_lit ?_
      refine wl (d_loadA Try.underlying27 rfl sz27 rfl (hM.at 4 rfl) (cl_size _ _ _)) rfl hF (fun a hF => ?_)
      refine wl0R (ok_storeA (c' := cl .u16 256 (sSlow F G)) sz27 rfl rfl (cl_size _ _ _) (cl_one _ _ _) (hM.at 2 rfl) (cl_size _ _ _)) hF ?_
      rintro w a hu hF
      have hM : Mem w0 w [(b1, cl .u16 256 F, 27), (b2, cl .u16 256 G, 27), (b3, cl .u16 256 (sSlow F G), 27), (b4, cl .i64 512 (cS F G 256), 57), (b5, cl .u16 256 (sSlow F G), 27)] := hM.upd 2 rfl hu
      refine wl_nil ?_
      have hF := hF.sub (L' := [(2, (Value.pointer (some ⟨b1, 0, none⟩))), (3, (Value.pointer (some ⟨b2, 0, none⟩))), (4, (Value.pointer (some ⟨b3, 0, none⟩))), (5, (Value.pointer (some ⟨b4, 0, none⟩))), (8, (Value.pointer (some ⟨b5, 0, none⟩))), (9, (Value.int .i64 (i : Int))), (41, (Value.bool (decide ((i : Int) < 256))))]) ⟨rfl, rfl, rfl, rfl, rfl, rfl, rfl, trivial⟩
      refine then_n ?_
      refine wp_ret ?_
      refine body_ret hF (results1 Try.results16 (RV.cellA Try.underlying27 rfl sz27 hF rfl (hM.at 2 rfl) (cl_size _ _ _))) ?_
      exact ⟨rfl, hM.below⟩
end Go.Mi.Ring
