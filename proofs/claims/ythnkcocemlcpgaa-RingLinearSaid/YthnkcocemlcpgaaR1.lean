/- Walks: what functions of ring, and of the reference, return. -/
import Derived.Test.YthnkcocemlcpgaaR0
import Derived.Test.YthnkcocemlcpgaaRf
import Derived.Test.YthnkcocemlcpgaaRb
namespace Go.Mi.Ring
open Go.Mi Go.Proofs
set_option maxRecDepth 100000 in
theorem mod_calls (x : Int) (_h0 : 0 ≤ x) (_h1 : x ≤ 4294967295) (w0 : World) : Calls Try.prog 36 (List.toArray [.int .u32 x]) w0 (Ret fun v w' => v = .int .u16 (x % 3329) ∧ Gr w0 w') := by
  refine calls_of Try.func36 rfl Try.ntmps36 rfl fun a hF => ?_
  have hM := Mem.start w0
  have hF := hF.sub (L' := [(0, (Value.int .u32 x))]) ⟨rfl, trivial⟩
  refine wp_seq ?_
  refine wp_region_lit ?_
  refine wl (d_assign rfl) rfl hF (fun a hF => ?_)
  refine wl_nil ?_
  have hF := hF.sub (L' := [(0, (Value.int .u32 x)), (2, (Value.int .u16 0))]) ⟨rfl, rfl, trivial⟩
  refine then_n ?_
  refine wp_seq ?_
  refine wp_region_lit ?_
  refine wl (d_move rfl) rfl hF (fun a hF => ?_)
  refine wl (d_rem rfl rfl (by omega) (tmod_pos (by omega))) rfl hF (fun a hF => ?_)
  refine wl (d_conv Try.underlying53 Try.underlying24 rfl (wrap_u16 (by omega) (by omega))) rfl hF (fun a hF => ?_)
  refine wl (d_assign rfl) rfl hF (fun a hF => ?_)
  refine wl_nil ?_
  have hF := hF.sub (L' := [(0, (Value.int .u32 x)), (2, (Value.int .u16 (x % 3329)))]) ⟨rfl, rfl, trivial⟩
  refine then_n ?_
  refine wp_ret ?_
  refine body_ret hF (results1 Try.results36 (RV.tmp hF rfl)) ?_
  exact ⟨rfl, hM.below⟩

set_option maxRecDepth 100000 in
theorem Add_calls {F G : Nat → Int} (hf : U16 F) (hg : U16 G) (w0 : World) : Calls Try.prog 17 (List.toArray [.agg (cl .u16 256 F), .agg (cl .u16 256 G)]) w0 (Ret fun v w' => v = .agg (cl .u16 256 (sAdd F G)) ∧ Gr w0 w') := by
  refine calls_of Try.func17 rfl Try.ntmps17 rfl fun a hF => ?_
  have hM := Mem.start w0
  have hF := hF.sub (L' := [(0, (Value.agg (cl .u16 256 F))), (1, (Value.agg (cl .u16 256 G)))]) ⟨rfl, rfl, trivial⟩
  refine wp_seq ?_
  refine wp_region_lit ?_
  refine wlR (ok_box rfl) rfl hF ?_
  rintro _ w a ⟨b1, rfl, hnb_⟩ hF
  have hM : Mem w0 w [(b1, cl .u16 256 F, 26)] := hM.alloc hnb_
  refine wlR (ok_box rfl) rfl hF ?_
  rintro _ w a ⟨b2, rfl, hnb_⟩ hF
  have hM : Mem w0 w [(b1, cl .u16 256 F, 26), (b2, cl .u16 256 G, 26)] := hM.alloc hnb_
  refine wlR (ok_alloc z26) rfl hF ?_
  rintro _ w a ⟨b3, rfl, hnb_⟩ hF
  have hM : Mem w0 w [(b1, cl .u16 256 F, 26), (b2, cl .u16 256 G, 26), (b3, cl .u16 256 fun _ => 0, 26)] := hM.alloc hnb_
  refine wl_nil ?_
  have hF := hF.sub (L' := [(0, (Value.agg (cl .u16 256 F))), (1, (Value.agg (cl .u16 256 G))), (2, (Value.pointer (some ⟨b1, 0, none⟩))), (3, (Value.pointer (some ⟨b2, 0, none⟩))), (4, (Value.pointer (some ⟨b3, 0, none⟩)))]) ⟨rfl, rfl, rfl, rfl, rfl, trivial⟩
  refine then_n ?_
  refine wp_seq ?_
  refine wp_seq ?_
  refine wp_region_lit ?_
  refine wl (d_move rfl) rfl hF (fun a hF => ?_)
  refine wl_nil ?_
  have hF := hF.sub (L' := [(0, (Value.agg (cl .u16 256 F))), (1, (Value.agg (cl .u16 256 G))), (2, (Value.pointer (some ⟨b1, 0, none⟩))), (3, (Value.pointer (some ⟨b2, 0, none⟩))), (4, (Value.pointer (some ⟨b3, 0, none⟩))), (6, (Value.int .i64 0))]) ⟨rfl, rfl, rfl, rfl, rfl, rfl, trivial⟩
  refine then_n ?_
  refine wp_block ?_
  refine wp_loop_k (fun fu_ a w => ∃ i : Nat, fu_ = 256 - i ∧ (i ≤ 256) ∧ Frm a 23 [(2, (Value.pointer (some ⟨b1, 0, none⟩))), (3, (Value.pointer (some ⟨b2, 0, none⟩))), (4, (Value.pointer (some ⟨b3, 0, none⟩))), (6, (Value.int .i64 (i : Int)))] ∧ Mem w0 w [(b1, cl .u16 256 (to i (sAdd F G) F), 26), (b2, cl .u16 256 G, 26), (b3, cl .u16 256 fun _ => 0, 26)]) _ ⟨0, rfl, (by omega), hF.sub ⟨rfl, rfl, rfl, rfl, trivial⟩, ?_⟩ ?_
  · rw [to_zero]; exact hM
  rintro _ a w ⟨i, rfl, hl1_0, hF, hM⟩
  refine wp_seq ?_
  refine wp_region_lit ?_
  refine wl (d_lss rfl rfl) rfl hF (fun a hF => ?_)
  refine wl_nil ?_
  have hF := hF.sub (L' := [(2, (Value.pointer (some ⟨b1, 0, none⟩))), (3, (Value.pointer (some ⟨b2, 0, none⟩))), (4, (Value.pointer (some ⟨b3, 0, none⟩))), (6, (Value.int .i64 (i : Int))), (7, (Value.bool (decide ((i : Int) < 256))))]) ⟨rfl, rfl, rfl, rfl, rfl, trivial⟩
  refine then_n ?_
  refine wp_seq ?_
  refine wp_if hF rfl (fun h => ?_) (fun h => ?_)
  · have hlt := of_decide_eq_true h
    clear h
    have hf' := hf i (by omega)
    have hg' := hg i (by omega)
    have e1 := to_at i (sAdd F G) F
    refine wp_skip ?_
    refine then_n ?_
    refine wp_seq ?_
    refine wp_block ?_
    refine wp_seq ?_
    refine wp_region_lit ?_
    refine wl (d_move rfl) rfl hF (fun a hF => ?_)
    refine wl (d_assign rfl) rfl hF (fun a hF => ?_)
    refine wl_nil ?_
    have hF := hF.sub (L' := [(2, (Value.pointer (some ⟨b1, 0, none⟩))), (3, (Value.pointer (some ⟨b2, 0, none⟩))), (4, (Value.pointer (some ⟨b3, 0, none⟩))), (5, (Value.int .i64 (i : Int))), (6, (Value.int .i64 (i : Int))), (7, (Value.bool (decide ((i : Int) < 256))))]) ⟨rfl, rfl, rfl, rfl, rfl, rfl, trivial⟩
    refine then_n ?_
    refine region_plan Tt mo (fun ph_ w => Mem w0 w (([[(b1, cl .u16 256 (to i (sAdd F G) F), 26), (b2, cl .u16 256 G, 26), (b3, cl .u16 256 fun _ => 0, 26)], [(b1, cl .u16 256 (upd (to i (sAdd F G) F) i (((to i (sAdd F G) F) i + G i) % 3329)), 26), (b2, cl .u16 256 G, 26), (b3, cl .u16 256 fun _ => 0, 26)]] : List (List Blk)).getD ph_ [])) [12] (rows := [⟨[], [(5, (Value.int .i64 (i : Int)))], [0], .val (Value.int .i64 (i : Int))⟩, ⟨[], [(5, (Value.int .i64 (i : Int)))], [0], .val (Value.int .i64 (i : Int))⟩, ⟨[(1, 10)], [(2, (Value.pointer (some ⟨b1, 0, none⟩)))], [0], .val (Value.pointer (some ⟨b1, i, none⟩))⟩, ⟨[(2, 11)], [], [0], .val (Value.int .u16 ((to i (sAdd F G) F) i))⟩, ⟨[(3, 12)], [], [0], .val (Value.int .u32 ((to i (sAdd F G) F) i))⟩, ⟨[], [(5, (Value.int .i64 (i : Int)))], [0], .val (Value.int .i64 (i : Int))⟩, ⟨[(5, 14)], [(3, (Value.pointer (some ⟨b2, 0, none⟩)))], [0], .val (Value.pointer (some ⟨b2, i, none⟩))⟩, ⟨[(6, 15)], [], [0], .val (Value.int .u16 (G i))⟩, ⟨[(7, 16)], [], [0], .val (Value.int .u32 (G i))⟩, ⟨[(4, 13), (8, 17)], [], [0], .val (Value.int .u32 ((to i (sAdd F G) F) i + G i))⟩, ⟨[(9, 18)], [], [0], .val (Value.int .u16 (((to i (sAdd F G) F) i + G i) % 3329))⟩, ⟨[(0, 9)], [(2, (Value.pointer (some ⟨b1, 0, none⟩)))], [0], .val (Value.pointer (some ⟨b1, i, none⟩))⟩, ⟨[(11, 20), (10, 19)], [], [0], .rel (fun _ _ => True) (fun _ _ _ _ _ => trivial)⟩]) (by kernel_rfl) hF hM.drew ?_ ?_
    · refine ⟨?_, ?_, ?_, ?_, ?_, ?_, ?_, ?_, ?_, ?_, ?_, ?_, ?_, trivial⟩
      · exact ⟨⟨rfl, trivial⟩, fun ph_ _ vs w hW _ => Det.ob hW (d_move rfl)⟩
      · exact ⟨⟨rfl, trivial⟩, fun ph_ _ vs w hW _ => Det.ob hW (d_move rfl)⟩
      · exact ⟨⟨rfl, trivial⟩, fun ph_ _ vs w hW _ => Det.ob hW (d_ixA0 (j := i) Try.underlying26 sz24 rfl rfl rfl (by omega))⟩
      · refine ⟨trivial, fun ph_ hp_ vs w hW _ => ?_⟩
        obtain rfl := memN_one hp_
        have hM : Mem w0 w [(b1, cl .u16 256 (to i (sAdd F G) F), 26), (b2, cl .u16 256 G, 26), (b3, cl .u16 256 fun _ => 0, 26)] := hW
        exact Det.ob hW (d_load1 Try.underlying24 rfl rfl (hM.cell 0 rfl (cl_get (by omega))))
      · exact ⟨trivial, fun ph_ _ vs w hW _ => Det.ob hW (d_conv Try.underlying24 Try.underlying53 rfl (wrap_u32 (by omega) (by omega)))⟩
      · exact ⟨⟨rfl, trivial⟩, fun ph_ _ vs w hW _ => Det.ob hW (d_move rfl)⟩
      · exact ⟨⟨rfl, trivial⟩, fun ph_ _ vs w hW _ => Det.ob hW (d_ixA0 (j := i) Try.underlying26 sz24 rfl rfl rfl (by omega))⟩
      · refine ⟨trivial, fun ph_ hp_ vs w hW _ => ?_⟩
        obtain rfl := memN_one hp_
        have hM : Mem w0 w [(b1, cl .u16 256 (to i (sAdd F G) F), 26), (b2, cl .u16 256 G, 26), (b3, cl .u16 256 fun _ => 0, 26)] := hW
        exact Det.ob hW (d_load1 Try.underlying24 rfl rfl (hM.cell 1 rfl (cl_get (by omega))))
      · exact ⟨trivial, fun ph_ _ vs w hW _ => Det.ob hW (d_conv Try.underlying24 Try.underlying53 rfl (wrap_u32 (by omega) (by omega)))⟩
      · exact ⟨trivial, fun ph_ _ vs w hW _ => Det.ob hW (d_add rfl rfl (wrap_u32 (by omega) (by omega)))⟩
      · exact ⟨trivial, fun ph_ _ vs w hW _ => Ok1.obc (fun w' g => Mem.call hW g) (ok_call c36 rfl (mod_calls _ (by omega) (by omega) _))⟩
      · exact ⟨⟨rfl, trivial⟩, fun ph_ _ vs w hW _ => Det.ob hW (d_ixA0 (j := i) Try.underlying26 sz24 rfl rfl rfl (by omega))⟩
      · refine ⟨trivial, fun ph_ hp_ vs w hW _ => ?_⟩
        obtain rfl := memN_one hp_
        have hM : Mem w0 w [(b1, cl .u16 256 (to i (sAdd F G) F), 26), (b2, cl .u16 256 G, 26), (b3, cl .u16 256 fun _ => 0, 26)] := hW
        exact Ok1.obs (fun w' hu => by rw [cl_set] at hu; exact hM.upd 0 rfl hu) (ok_store1 (v := (Value.int .u16 (((to i (sAdd F G) F) i + G i) % 3329))) sz24 rfl rfl rfl (hM.at 0 rfl) (by rw [cl_size]; omega))
    · intro a w vs hW _ hF
      have hM : Mem w0 w [(b1, cl .u16 256 (upd (to i (sAdd F G) F) i (((to i (sAdd F G) F) i + G i) % 3329)), 26), (b2, cl .u16 256 G, 26), (b3, cl .u16 256 fun _ => 0, 26)] := hW
      have hF := hF.sub (L' := [(2, (Value.pointer (some ⟨b1, 0, none⟩))), (3, (Value.pointer (some ⟨b2, 0, none⟩))), (4, (Value.pointer (some ⟨b3, 0, none⟩))), (5, (Value.int .i64 (i : Int))), (6, (Value.int .i64 (i : Int))), (7, (Value.bool (decide ((i : Int) < 256))))]) ⟨rfl, rfl, rfl, rfl, rfl, rfl, trivial⟩
      refine block_n ?_
      refine then_n ?_
      refine wp_region_lit ?_
      refine wl (d_add rfl rfl (wrap_i64 (by omega) (by omega))) rfl hF (fun a hF => ?_)
      refine wl (d_move rfl) rfl hF (fun a hF => ?_)
      refine wl_nil ?_
      have hF := hF.sub (L' := [(2, (Value.pointer (some ⟨b1, 0, none⟩))), (3, (Value.pointer (some ⟨b2, 0, none⟩))), (4, (Value.pointer (some ⟨b3, 0, none⟩))), (5, (Value.int .i64 (i : Int))), (6, (Value.int .i64 ((i : Int) + 1))), (7, (Value.bool (decide ((i : Int) < 256))))]) ⟨rfl, rfl, rfl, rfl, rfl, rfl, trivial⟩
      refine then_n ?_
      refine ⟨_, ?_, i + 1, rfl, (by omega), hF.sub ⟨rfl, rfl, rfl, rfl, trivial⟩, ?_⟩
      · omega
      rw [to_step (by rw [e1]; rfl)] at hM
      exact hM
  · have hlt := of_decide_eq_false h
    clear h
    have hi : i = 256 := by omega
    rw [hi, to_all] at hM
    refine wp_exit ?_
    refine then_exit ?_
    refine then_exit ?_
    refine block_exit ?_
    refine then_n ?_
    refine wp_seq ?_
    refine wp_region_lit ?_
    refine wl (d_loadA Try.underlying26 rfl sz26 rfl (hM.at 0 rfl) (cl_size _ _ _)) rfl hF (fun a hF => ?_)
    refine wl0R (ok_storeA (c' := cl .u16 256 (sAdd F G)) sz26 rfl rfl (cl_size _ _ _) (cl_one _ _ _) (hM.at 2 rfl) (cl_size _ _ _)) hF ?_
    rintro w a hu hF
    have hM : Mem w0 w [(b1, cl .u16 256 (sAdd F G), 26), (b2, cl .u16 256 G, 26), (b3, cl .u16 256 (sAdd F G), 26)] := hM.upd 2 rfl hu
    refine wl_nil ?_
    have hF := hF.sub (L' := [(2, (Value.pointer (some ⟨b1, 0, none⟩))), (3, (Value.pointer (some ⟨b2, 0, none⟩))), (4, (Value.pointer (some ⟨b3, 0, none⟩))), (6, (Value.int .i64 (i : Int))), (7, (Value.bool (decide ((i : Int) < 256))))]) ⟨rfl, rfl, rfl, rfl, rfl, trivial⟩
    refine then_n ?_
    refine wp_ret ?_
    refine body_ret hF (results1 Try.results17 (RV.cellA Try.underlying26 rfl sz26 hF rfl (hM.at 2 rfl) (cl_size _ _ _))) ?_
    exact ⟨rfl, hM.below⟩

set_option maxRecDepth 100000 in
theorem Sub_calls {F G : Nat → Int} (hf : U16 F) (hg : U16 G) (w0 : World) : Calls Try.prog 20 (List.toArray [.agg (cl .u16 256 F), .agg (cl .u16 256 G)]) w0 (Ret fun v w' => v = .agg (cl .u16 256 (sSub F G)) ∧ Gr w0 w') := by
  refine calls_of Try.func20 rfl Try.ntmps20 rfl fun a hF => ?_
  have hM := Mem.start w0
  have hF := hF.sub (L' := [(0, (Value.agg (cl .u16 256 F))), (1, (Value.agg (cl .u16 256 G)))]) ⟨rfl, rfl, trivial⟩
  refine wp_seq ?_
  refine wp_region_lit ?_
  refine wlR (ok_box rfl) rfl hF ?_
  rintro _ w a ⟨b1, rfl, hnb_⟩ hF
  have hM : Mem w0 w [(b1, cl .u16 256 F, 26)] := hM.alloc hnb_
  refine wlR (ok_box rfl) rfl hF ?_
  rintro _ w a ⟨b2, rfl, hnb_⟩ hF
  have hM : Mem w0 w [(b1, cl .u16 256 F, 26), (b2, cl .u16 256 G, 26)] := hM.alloc hnb_
  refine wlR (ok_alloc z26) rfl hF ?_
  rintro _ w a ⟨b3, rfl, hnb_⟩ hF
  have hM : Mem w0 w [(b1, cl .u16 256 F, 26), (b2, cl .u16 256 G, 26), (b3, cl .u16 256 fun _ => 0, 26)] := hM.alloc hnb_
  refine wl_nil ?_
  have hF := hF.sub (L' := [(0, (Value.agg (cl .u16 256 F))), (1, (Value.agg (cl .u16 256 G))), (2, (Value.pointer (some ⟨b1, 0, none⟩))), (3, (Value.pointer (some ⟨b2, 0, none⟩))), (4, (Value.pointer (some ⟨b3, 0, none⟩)))]) ⟨rfl, rfl, rfl, rfl, rfl, trivial⟩
  refine then_n ?_
  refine wp_seq ?_
  refine wp_seq ?_
  refine wp_region_lit ?_
  refine wl (d_move rfl) rfl hF (fun a hF => ?_)
  refine wl_nil ?_
  have hF := hF.sub (L' := [(0, (Value.agg (cl .u16 256 F))), (1, (Value.agg (cl .u16 256 G))), (2, (Value.pointer (some ⟨b1, 0, none⟩))), (3, (Value.pointer (some ⟨b2, 0, none⟩))), (4, (Value.pointer (some ⟨b3, 0, none⟩))), (6, (Value.int .i64 0))]) ⟨rfl, rfl, rfl, rfl, rfl, rfl, trivial⟩
  refine then_n ?_
  refine wp_block ?_
  refine wp_loop_k (fun fu_ a w => ∃ i : Nat, fu_ = 256 - i ∧ (i ≤ 256) ∧ Frm a 25 [(2, (Value.pointer (some ⟨b1, 0, none⟩))), (3, (Value.pointer (some ⟨b2, 0, none⟩))), (4, (Value.pointer (some ⟨b3, 0, none⟩))), (6, (Value.int .i64 (i : Int)))] ∧ Mem w0 w [(b1, cl .u16 256 (to i (sSub F G) F), 26), (b2, cl .u16 256 G, 26), (b3, cl .u16 256 fun _ => 0, 26)]) _ ⟨0, rfl, (by omega), hF.sub ⟨rfl, rfl, rfl, rfl, trivial⟩, ?_⟩ ?_
  · rw [to_zero]; exact hM
  rintro _ a w ⟨i, rfl, hl1_0, hF, hM⟩
  refine wp_seq ?_
  refine wp_region_lit ?_
  refine wl (d_lss rfl rfl) rfl hF (fun a hF => ?_)
  refine wl_nil ?_
  have hF := hF.sub (L' := [(2, (Value.pointer (some ⟨b1, 0, none⟩))), (3, (Value.pointer (some ⟨b2, 0, none⟩))), (4, (Value.pointer (some ⟨b3, 0, none⟩))), (6, (Value.int .i64 (i : Int))), (7, (Value.bool (decide ((i : Int) < 256))))]) ⟨rfl, rfl, rfl, rfl, rfl, trivial⟩
  refine then_n ?_
  refine wp_seq ?_
  refine wp_if hF rfl (fun h => ?_) (fun h => ?_)
  · have hlt := of_decide_eq_true h
    clear h
    have hf' := hf i (by omega)
    have hg' := hg i (by omega)
    have e1 := to_at i (sSub F G) F
    refine wp_skip ?_
    refine then_n ?_
    refine wp_seq ?_
    refine wp_block ?_
    refine wp_seq ?_
    refine wp_region_lit ?_
    refine wl (d_move rfl) rfl hF (fun a hF => ?_)
    refine wl (d_assign rfl) rfl hF (fun a hF => ?_)
    refine wl_nil ?_
    have hF := hF.sub (L' := [(2, (Value.pointer (some ⟨b1, 0, none⟩))), (3, (Value.pointer (some ⟨b2, 0, none⟩))), (4, (Value.pointer (some ⟨b3, 0, none⟩))), (5, (Value.int .i64 (i : Int))), (6, (Value.int .i64 (i : Int))), (7, (Value.bool (decide ((i : Int) < 256))))]) ⟨rfl, rfl, rfl, rfl, rfl, rfl, trivial⟩
    refine then_n ?_
    refine region_plan Tt mo (fun ph_ w => Mem w0 w (([[(b1, cl .u16 256 (to i (sSub F G) F), 26), (b2, cl .u16 256 G, 26), (b3, cl .u16 256 fun _ => 0, 26)], [(b1, cl .u16 256 (upd (to i (sSub F G) F) i ((((to i (sSub F G) F) i + 3329) - (G i % 3329)) % 3329)), 26), (b2, cl .u16 256 G, 26), (b3, cl .u16 256 fun _ => 0, 26)]] : List (List Blk)).getD ph_ [])) [14] (rows := [⟨[], [(5, (Value.int .i64 (i : Int)))], [0], .val (Value.int .i64 (i : Int))⟩, ⟨[], [(5, (Value.int .i64 (i : Int)))], [0], .val (Value.int .i64 (i : Int))⟩, ⟨[(1, 10)], [(2, (Value.pointer (some ⟨b1, 0, none⟩)))], [0], .val (Value.pointer (some ⟨b1, i, none⟩))⟩, ⟨[(2, 11)], [], [0], .val (Value.int .u16 ((to i (sSub F G) F) i))⟩, ⟨[(3, 12)], [], [0], .val (Value.int .u32 ((to i (sSub F G) F) i))⟩, ⟨[(4, 13)], [], [0], .val (Value.int .u32 ((to i (sSub F G) F) i + 3329))⟩, ⟨[], [(5, (Value.int .i64 (i : Int)))], [0], .val (Value.int .i64 (i : Int))⟩, ⟨[(6, 15)], [(3, (Value.pointer (some ⟨b2, 0, none⟩)))], [0], .val (Value.pointer (some ⟨b2, i, none⟩))⟩, ⟨[(7, 16)], [], [0], .val (Value.int .u16 (G i))⟩, ⟨[(8, 17)], [], [0], .val (Value.int .u16 (G i % 3329))⟩, ⟨[(9, 18)], [], [0], .val (Value.int .u32 (G i % 3329))⟩, ⟨[(5, 14), (10, 19)], [], [0], .val (Value.int .u32 (((to i (sSub F G) F) i + 3329) - (G i % 3329)))⟩, ⟨[(11, 20)], [], [0], .val (Value.int .u16 ((((to i (sSub F G) F) i + 3329) - (G i % 3329)) % 3329))⟩, ⟨[(0, 9)], [(2, (Value.pointer (some ⟨b1, 0, none⟩)))], [0], .val (Value.pointer (some ⟨b1, i, none⟩))⟩, ⟨[(13, 22), (12, 21)], [], [0], .rel (fun _ _ => True) (fun _ _ _ _ _ => trivial)⟩]) (by kernel_rfl) hF hM.drew ?_ ?_
    · refine ⟨?_, ?_, ?_, ?_, ?_, ?_, ?_, ?_, ?_, ?_, ?_, ?_, ?_, ?_, ?_, trivial⟩
      · exact ⟨⟨rfl, trivial⟩, fun ph_ _ vs w hW _ => Det.ob hW (d_move rfl)⟩
      · exact ⟨⟨rfl, trivial⟩, fun ph_ _ vs w hW _ => Det.ob hW (d_move rfl)⟩
      · exact ⟨⟨rfl, trivial⟩, fun ph_ _ vs w hW _ => Det.ob hW (d_ixA0 (j := i) Try.underlying26 sz24 rfl rfl rfl (by omega))⟩
      · refine ⟨trivial, fun ph_ hp_ vs w hW _ => ?_⟩
        obtain rfl := memN_one hp_
        have hM : Mem w0 w [(b1, cl .u16 256 (to i (sSub F G) F), 26), (b2, cl .u16 256 G, 26), (b3, cl .u16 256 fun _ => 0, 26)] := hW
        exact Det.ob hW (d_load1 Try.underlying24 rfl rfl (hM.cell 0 rfl (cl_get (by omega))))
      · exact ⟨trivial, fun ph_ _ vs w hW _ => Det.ob hW (d_conv Try.underlying24 Try.underlying53 rfl (wrap_u32 (by omega) (by omega)))⟩
      · exact ⟨trivial, fun ph_ _ vs w hW _ => Det.ob hW (d_add rfl rfl (wrap_u32 (by omega) (by omega)))⟩
      · exact ⟨⟨rfl, trivial⟩, fun ph_ _ vs w hW _ => Det.ob hW (d_move rfl)⟩
      · exact ⟨⟨rfl, trivial⟩, fun ph_ _ vs w hW _ => Det.ob hW (d_ixA0 (j := i) Try.underlying26 sz24 rfl rfl rfl (by omega))⟩
      · refine ⟨trivial, fun ph_ hp_ vs w hW _ => ?_⟩
        obtain rfl := memN_one hp_
        have hM : Mem w0 w [(b1, cl .u16 256 (to i (sSub F G) F), 26), (b2, cl .u16 256 G, 26), (b3, cl .u16 256 fun _ => 0, 26)] := hW
        exact Det.ob hW (d_load1 Try.underlying24 rfl rfl (hM.cell 1 rfl (cl_get (by omega))))
      · exact ⟨trivial, fun ph_ _ vs w hW _ => Det.ob hW (d_rem rfl rfl (by omega) (tmod_pos (by omega)))⟩
      · exact ⟨trivial, fun ph_ _ vs w hW _ => Det.ob hW (d_conv Try.underlying24 Try.underlying53 rfl (wrap_u32 (by omega) (by omega)))⟩
      · exact ⟨trivial, fun ph_ _ vs w hW _ => Det.ob hW (d_sub rfl rfl (wrap_u32 (by omega) (by omega)))⟩
      · exact ⟨trivial, fun ph_ _ vs w hW _ => Ok1.obc (fun w' g => Mem.call hW g) (ok_call c36 rfl (mod_calls _ (by omega) (by omega) _))⟩
      · exact ⟨⟨rfl, trivial⟩, fun ph_ _ vs w hW _ => Det.ob hW (d_ixA0 (j := i) Try.underlying26 sz24 rfl rfl rfl (by omega))⟩
      · refine ⟨trivial, fun ph_ hp_ vs w hW _ => ?_⟩
        obtain rfl := memN_one hp_
        have hM : Mem w0 w [(b1, cl .u16 256 (to i (sSub F G) F), 26), (b2, cl .u16 256 G, 26), (b3, cl .u16 256 fun _ => 0, 26)] := hW
        exact Ok1.obs (fun w' hu => by rw [cl_set] at hu; exact hM.upd 0 rfl hu) (ok_store1 (v := (Value.int .u16 ((((to i (sSub F G) F) i + 3329) - (G i % 3329)) % 3329))) sz24 rfl rfl rfl (hM.at 0 rfl) (by rw [cl_size]; omega))
    · intro a w vs hW _ hF
      have hM : Mem w0 w [(b1, cl .u16 256 (upd (to i (sSub F G) F) i ((((to i (sSub F G) F) i + 3329) - (G i % 3329)) % 3329)), 26), (b2, cl .u16 256 G, 26), (b3, cl .u16 256 fun _ => 0, 26)] := hW
      have hF := hF.sub (L' := [(2, (Value.pointer (some ⟨b1, 0, none⟩))), (3, (Value.pointer (some ⟨b2, 0, none⟩))), (4, (Value.pointer (some ⟨b3, 0, none⟩))), (5, (Value.int .i64 (i : Int))), (6, (Value.int .i64 (i : Int))), (7, (Value.bool (decide ((i : Int) < 256))))]) ⟨rfl, rfl, rfl, rfl, rfl, rfl, trivial⟩
      refine block_n ?_
      refine then_n ?_
      refine wp_region_lit ?_
      refine wl (d_add rfl rfl (wrap_i64 (by omega) (by omega))) rfl hF (fun a hF => ?_)
      refine wl (d_move rfl) rfl hF (fun a hF => ?_)
      refine wl_nil ?_
      have hF := hF.sub (L' := [(2, (Value.pointer (some ⟨b1, 0, none⟩))), (3, (Value.pointer (some ⟨b2, 0, none⟩))), (4, (Value.pointer (some ⟨b3, 0, none⟩))), (5, (Value.int .i64 (i : Int))), (6, (Value.int .i64 ((i : Int) + 1))), (7, (Value.bool (decide ((i : Int) < 256))))]) ⟨rfl, rfl, rfl, rfl, rfl, rfl, trivial⟩
      refine then_n ?_
      refine ⟨_, ?_, i + 1, rfl, (by omega), hF.sub ⟨rfl, rfl, rfl, rfl, trivial⟩, ?_⟩
      · omega
      rw [to_step (by rw [e1]; rfl)] at hM
      exact hM
  · have hlt := of_decide_eq_false h
    clear h
    have hi : i = 256 := by omega
    rw [hi, to_all] at hM
    refine wp_exit ?_
    refine then_exit ?_
    refine then_exit ?_
    refine block_exit ?_
    refine then_n ?_
    refine wp_seq ?_
    refine wp_region_lit ?_
    refine wl (d_loadA Try.underlying26 rfl sz26 rfl (hM.at 0 rfl) (cl_size _ _ _)) rfl hF (fun a hF => ?_)
    refine wl0R (ok_storeA (c' := cl .u16 256 (sSub F G)) sz26 rfl rfl (cl_size _ _ _) (cl_one _ _ _) (hM.at 2 rfl) (cl_size _ _ _)) hF ?_
    rintro w a hu hF
    have hM : Mem w0 w [(b1, cl .u16 256 (sSub F G), 26), (b2, cl .u16 256 G, 26), (b3, cl .u16 256 (sSub F G), 26)] := hM.upd 2 rfl hu
    refine wl_nil ?_
    have hF := hF.sub (L' := [(2, (Value.pointer (some ⟨b1, 0, none⟩))), (3, (Value.pointer (some ⟨b2, 0, none⟩))), (4, (Value.pointer (some ⟨b3, 0, none⟩))), (6, (Value.int .i64 (i : Int))), (7, (Value.bool (decide ((i : Int) < 256))))]) ⟨rfl, rfl, rfl, rfl, rfl, trivial⟩
    refine then_n ?_
    refine wp_ret ?_
    refine body_ret hF (results1 Try.results20 (RV.cellA Try.underlying26 rfl sz26 hF rfl (hM.at 2 rfl) (cl_size _ _ _))) ?_
    exact ⟨rfl, hM.below⟩

set_option maxRecDepth 100000 in
theorem RAdd_calls {F G : Nat → Int} (hf : U16 F) (hg : U16 G) (w0 : World) : Calls Try.prog 22 (List.toArray [.agg (cl .u16 256 F), .agg (cl .u16 256 G)]) w0 (Ret fun v w' => v = .agg (cl .u16 256 (sAdd F G)) ∧ Gr w0 w') := by
  refine calls_of Try.func22 rfl Try.ntmps22 rfl fun a hF => ?_
  have hM := Mem.start w0
  have hF := hF.sub (L' := [(0, (Value.agg (cl .u16 256 F))), (1, (Value.agg (cl .u16 256 G)))]) ⟨rfl, rfl, trivial⟩
  refine wp_seq ?_
  refine wp_region_lit ?_
  refine wlR (ok_box rfl) rfl hF ?_
  rintro _ w a ⟨b1, rfl, hnb_⟩ hF
  have hM : Mem w0 w [(b1, cl .u16 256 F, 27)] := hM.alloc hnb_
  refine wlR (ok_box rfl) rfl hF ?_
  rintro _ w a ⟨b2, rfl, hnb_⟩ hF
  have hM : Mem w0 w [(b1, cl .u16 256 F, 27), (b2, cl .u16 256 G, 27)] := hM.alloc hnb_
  refine wlR (ok_alloc z27) rfl hF ?_
  rintro _ w a ⟨b3, rfl, hnb_⟩ hF
  have hM : Mem w0 w [(b1, cl .u16 256 F, 27), (b2, cl .u16 256 G, 27), (b3, cl .u16 256 fun _ => 0, 27)] := hM.alloc hnb_
  refine wl_nil ?_
  have hF := hF.sub (L' := [(0, (Value.agg (cl .u16 256 F))), (1, (Value.agg (cl .u16 256 G))), (2, (Value.pointer (some ⟨b1, 0, none⟩))), (3, (Value.pointer (some ⟨b2, 0, none⟩))), (4, (Value.pointer (some ⟨b3, 0, none⟩)))]) ⟨rfl, rfl, rfl, rfl, rfl, trivial⟩
  refine then_n ?_
  refine wp_seq ?_
  refine wp_region_lit ?_
  refine wlR (ok_alloc z27) rfl hF ?_
  rintro _ w a ⟨b4, rfl, hnb_⟩ hF
  have hM : Mem w0 w [(b1, cl .u16 256 F, 27), (b2, cl .u16 256 G, 27), (b3, cl .u16 256 fun _ => 0, 27), (b4, cl .u16 256 fun _ => 0, 27)] := hM.alloc hnb_
  refine wl_nil ?_
  have hF := hF.sub (L' := [(0, (Value.agg (cl .u16 256 F))), (1, (Value.agg (cl .u16 256 G))), (2, (Value.pointer (some ⟨b1, 0, none⟩))), (3, (Value.pointer (some ⟨b2, 0, none⟩))), (4, (Value.pointer (some ⟨b3, 0, none⟩))), (5, (Value.pointer (some ⟨b4, 0, none⟩)))]) ⟨rfl, rfl, rfl, rfl, rfl, rfl, trivial⟩
  refine then_n ?_
  refine wp_seq ?_
  refine wp_seq ?_
  refine wp_region_lit ?_
  refine wl (d_assign rfl) rfl hF (fun a hF => ?_)
  refine wl_nil ?_
  have hF := hF.sub (L' := [(0, (Value.agg (cl .u16 256 F))), (1, (Value.agg (cl .u16 256 G))), (2, (Value.pointer (some ⟨b1, 0, none⟩))), (3, (Value.pointer (some ⟨b2, 0, none⟩))), (4, (Value.pointer (some ⟨b3, 0, none⟩))), (5, (Value.pointer (some ⟨b4, 0, none⟩))), (6, (Value.int .i64 0))]) ⟨rfl, rfl, rfl, rfl, rfl, rfl, rfl, trivial⟩
  refine then_n ?_
  refine wp_block ?_
  refine wp_loop_k (fun fu_ a w => ∃ i : Nat, fu_ = 256 - i ∧ (i ≤ 256) ∧ Frm a 25 [(2, (Value.pointer (some ⟨b1, 0, none⟩))), (3, (Value.pointer (some ⟨b2, 0, none⟩))), (4, (Value.pointer (some ⟨b3, 0, none⟩))), (5, (Value.pointer (some ⟨b4, 0, none⟩))), (6, (Value.int .i64 (i : Int)))] ∧ Mem w0 w [(b1, cl .u16 256 F, 27), (b2, cl .u16 256 G, 27), (b3, cl .u16 256 fun _ => 0, 27), (b4, cl .u16 256 (to i (sAdd F G) (fun _ => 0)), 27)]) _ ⟨0, rfl, (by omega), hF.sub ⟨rfl, rfl, rfl, rfl, rfl, trivial⟩, ?_⟩ ?_
  · rw [to_zero]; exact hM
  rintro _ a w ⟨i, rfl, hl1_0, hF, hM⟩
  refine wp_seq ?_
  refine wp_seq ?_
  refine wp_region_lit ?_
  refine wl (d_move rfl) rfl hF (fun a hF => ?_)
  refine wl (d_lss rfl rfl) rfl hF (fun a hF => ?_)
  refine wl_nil ?_
  have hF := hF.sub (L' := [(2, (Value.pointer (some ⟨b1, 0, none⟩))), (3, (Value.pointer (some ⟨b2, 0, none⟩))), (4, (Value.pointer (some ⟨b3, 0, none⟩))), (5, (Value.pointer (some ⟨b4, 0, none⟩))), (6, (Value.int .i64 (i : Int))), (8, (Value.bool (decide ((i : Int) < 256))))]) ⟨rfl, rfl, rfl, rfl, rfl, rfl, trivial⟩
  refine then_n ?_
  refine wp_if hF rfl (fun h => ?_) (fun h => ?_)
  · have hlt := of_decide_eq_true h
    clear h
    have hf' := hf i (by omega)
    have hg' := hg i (by omega)
    refine wp_skip ?_
    refine then_n ?_
    refine wp_seq ?_
    refine wp_block ?_
    refine region_plan Tt mo (fun ph_ w => Mem w0 w (([[(b1, cl .u16 256 F, 27), (b2, cl .u16 256 G, 27), (b3, cl .u16 256 fun _ => 0, 27), (b4, cl .u16 256 (to i (sAdd F G) (fun _ => 0)), 27)], [(b1, cl .u16 256 F, 27), (b2, cl .u16 256 G, 27), (b3, cl .u16 256 fun _ => 0, 27), (b4, cl .u16 256 (upd (to i (sAdd F G) (fun _ => 0)) i ((F i + G i) % 3329)), 27)]] : List (List Blk)).getD ph_ [])) [13] (rows := [⟨[], [(6, (Value.int .i64 (i : Int)))], [0], .val (Value.int .i64 (i : Int))⟩, ⟨[], [(6, (Value.int .i64 (i : Int)))], [0], .val (Value.int .i64 (i : Int))⟩, ⟨[(1, 12)], [(2, (Value.pointer (some ⟨b1, 0, none⟩)))], [0], .val (Value.pointer (some ⟨b1, i, none⟩))⟩, ⟨[(2, 13)], [], [0], .val (Value.int .u16 (F i))⟩, ⟨[(3, 14)], [], [0], .val (Value.int .i64 (F i))⟩, ⟨[], [(6, (Value.int .i64 (i : Int)))], [0], .val (Value.int .i64 (i : Int))⟩, ⟨[(5, 16)], [(3, (Value.pointer (some ⟨b2, 0, none⟩)))], [0], .val (Value.pointer (some ⟨b2, i, none⟩))⟩, ⟨[(6, 17)], [], [0], .val (Value.int .u16 (G i))⟩, ⟨[(7, 18)], [], [0], .val (Value.int .i64 (G i))⟩, ⟨[(4, 15), (8, 19)], [], [0], .val (Value.int .i64 (F i + G i))⟩, ⟨[(9, 20)], [], [0], .val (Value.int .i64 ((F i + G i) % 3329))⟩, ⟨[(10, 21)], [], [0], .val (Value.int .u16 ((F i + G i) % 3329))⟩, ⟨[(0, 11)], [(5, (Value.pointer (some ⟨b4, 0, none⟩)))], [0], .val (Value.pointer (some ⟨b4, i, none⟩))⟩, ⟨[(12, 23), (11, 22)], [], [0], .rel (fun _ _ => True) (fun _ _ _ _ _ => trivial)⟩]) (by kernel_rfl) hF hM.drew ?_ ?_
    · refine ⟨?_, ?_, ?_, ?_, ?_, ?_, ?_, ?_, ?_, ?_, ?_, ?_, ?_, ?_, trivial⟩
      · exact ⟨⟨rfl, trivial⟩, fun ph_ _ vs w hW _ => Det.ob hW (d_move rfl)⟩
      · exact ⟨⟨rfl, trivial⟩, fun ph_ _ vs w hW _ => Det.ob hW (d_move rfl)⟩
      · exact ⟨⟨rfl, trivial⟩, fun ph_ _ vs w hW _ => Det.ob hW (d_ixA0 (j := i) Try.underlying27 sz24 rfl rfl rfl (by omega))⟩
      · refine ⟨trivial, fun ph_ hp_ vs w hW _ => ?_⟩
        obtain rfl := memN_one hp_
        have hM : Mem w0 w [(b1, cl .u16 256 F, 27), (b2, cl .u16 256 G, 27), (b3, cl .u16 256 fun _ => 0, 27), (b4, cl .u16 256 (to i (sAdd F G) (fun _ => 0)), 27)] := hW
        exact Det.ob hW (d_load1 Try.underlying24 rfl rfl (hM.cell 0 rfl (cl_get (by omega))))
      · exact ⟨trivial, fun ph_ _ vs w hW _ => Det.ob hW (d_conv Try.underlying24 Try.underlying3 rfl (wrap_i64 (by omega) (by omega)))⟩
      · exact ⟨⟨rfl, trivial⟩, fun ph_ _ vs w hW _ => Det.ob hW (d_move rfl)⟩
      · exact ⟨⟨rfl, trivial⟩, fun ph_ _ vs w hW _ => Det.ob hW (d_ixA0 (j := i) Try.underlying27 sz24 rfl rfl rfl (by omega))⟩
      · refine ⟨trivial, fun ph_ hp_ vs w hW _ => ?_⟩
        obtain rfl := memN_one hp_
        have hM : Mem w0 w [(b1, cl .u16 256 F, 27), (b2, cl .u16 256 G, 27), (b3, cl .u16 256 fun _ => 0, 27), (b4, cl .u16 256 (to i (sAdd F G) (fun _ => 0)), 27)] := hW
        exact Det.ob hW (d_load1 Try.underlying24 rfl rfl (hM.cell 1 rfl (cl_get (by omega))))
      · exact ⟨trivial, fun ph_ _ vs w hW _ => Det.ob hW (d_conv Try.underlying24 Try.underlying3 rfl (wrap_i64 (by omega) (by omega)))⟩
      · exact ⟨trivial, fun ph_ _ vs w hW _ => Det.ob hW (d_add rfl rfl (wrap_i64 (by omega) (by omega)))⟩
      · exact ⟨trivial, fun ph_ _ vs w hW _ => Det.ob hW (d_rem rfl rfl (by omega) (tmod_pos (by omega)))⟩
      · exact ⟨trivial, fun ph_ _ vs w hW _ => Det.ob hW (d_conv Try.underlying3 Try.underlying24 rfl (wrap_u16 (by omega) (by omega)))⟩
      · exact ⟨⟨rfl, trivial⟩, fun ph_ _ vs w hW _ => Det.ob hW (d_ixA0 (j := i) Try.underlying27 sz24 rfl rfl rfl (by omega))⟩
      · refine ⟨trivial, fun ph_ hp_ vs w hW _ => ?_⟩
        obtain rfl := memN_one hp_
        have hM : Mem w0 w [(b1, cl .u16 256 F, 27), (b2, cl .u16 256 G, 27), (b3, cl .u16 256 fun _ => 0, 27), (b4, cl .u16 256 (to i (sAdd F G) (fun _ => 0)), 27)] := hW
        exact Ok1.obs (fun w' hu => by rw [cl_set] at hu; exact hM.upd 3 rfl hu) (ok_store1 (v := (Value.int .u16 ((F i + G i) % 3329))) sz24 rfl rfl rfl (hM.at 3 rfl) (by rw [cl_size]; omega))
    · intro a w vs hW _ hF
      have hM : Mem w0 w [(b1, cl .u16 256 F, 27), (b2, cl .u16 256 G, 27), (b3, cl .u16 256 fun _ => 0, 27), (b4, cl .u16 256 (upd (to i (sAdd F G) (fun _ => 0)) i ((F i + G i) % 3329)), 27)] := hW
      have hF := hF.sub (L' := [(2, (Value.pointer (some ⟨b1, 0, none⟩))), (3, (Value.pointer (some ⟨b2, 0, none⟩))), (4, (Value.pointer (some ⟨b3, 0, none⟩))), (5, (Value.pointer (some ⟨b4, 0, none⟩))), (6, (Value.int .i64 (i : Int))), (8, (Value.bool (decide ((i : Int) < 256))))]) ⟨rfl, rfl, rfl, rfl, rfl, rfl, trivial⟩
      refine block_n ?_
      refine then_n ?_
      refine wp_region_lit ?_
      refine wl (d_move rfl) rfl hF (fun a hF => ?_)
      refine wl (d_add rfl rfl (wrap_i64 (by omega) (by omega))) rfl hF (fun a hF => ?_)
      refine wl (d_assign rfl) rfl hF (fun a hF => ?_)
      refine wl_nil ?_
      have hF := hF.sub (L' := [(2, (Value.pointer (some ⟨b1, 0, none⟩))), (3, (Value.pointer (some ⟨b2, 0, none⟩))), (4, (Value.pointer (some ⟨b3, 0, none⟩))), (5, (Value.pointer (some ⟨b4, 0, none⟩))), (6, (Value.int .i64 ((i : Int) + 1))), (8, (Value.bool (decide ((i : Int) < 256))))]) ⟨rfl, rfl, rfl, rfl, rfl, rfl, trivial⟩
      refine then_n ?_
      refine ⟨_, ?_, i + 1, rfl, (by omega), hF.sub ⟨rfl, rfl, rfl, rfl, rfl, trivial⟩, ?_⟩
      · omega
      rw [to_step (by rfl)] at hM
      exact hM
  · have hlt := of_decide_eq_false h
    clear h
    have hi : i = 256 := by omega
    rw [hi, to_all] at hM
    refine wp_exit ?_
    refine then_exit ?_
    refine then_exit ?_
    refine block_exit ?_
    refine then_n ?_
    refine wp_seq ?_
    refine wp_region_lit ?_
    refine wl (d_loadA Try.underlying27 rfl sz27 rfl (hM.at 3 rfl) (cl_size _ _ _)) rfl hF (fun a hF => ?_)
    refine wl0R (ok_storeA (c' := cl .u16 256 (sAdd F G)) sz27 rfl rfl (cl_size _ _ _) (cl_one _ _ _) (hM.at 2 rfl) (cl_size _ _ _)) hF ?_
    rintro w a hu hF
    have hM : Mem w0 w [(b1, cl .u16 256 F, 27), (b2, cl .u16 256 G, 27), (b3, cl .u16 256 (sAdd F G), 27), (b4, cl .u16 256 (sAdd F G), 27)] := hM.upd 2 rfl hu
    refine wl_nil ?_
    have hF := hF.sub (L' := [(2, (Value.pointer (some ⟨b1, 0, none⟩))), (3, (Value.pointer (some ⟨b2, 0, none⟩))), (4, (Value.pointer (some ⟨b3, 0, none⟩))), (5, (Value.pointer (some ⟨b4, 0, none⟩))), (6, (Value.int .i64 (i : Int))), (8, (Value.bool (decide ((i : Int) < 256))))]) ⟨rfl, rfl, rfl, rfl, rfl, rfl, trivial⟩
    refine then_n ?_
    refine wp_ret ?_
    refine body_ret hF (results1 Try.results22 (RV.cellA Try.underlying27 rfl sz27 hF rfl (hM.at 2 rfl) (cl_size _ _ _))) ?_
    exact ⟨rfl, hM.below⟩

set_option maxRecDepth 100000 in
theorem RSub_calls {F G : Nat → Int} (hf : U16 F) (hg : U16 G) (w0 : World) : Calls Try.prog 23 (List.toArray [.agg (cl .u16 256 F), .agg (cl .u16 256 G)]) w0 (Ret fun v w' => v = .agg (cl .u16 256 (sSub F G)) ∧ Gr w0 w') := by
  refine calls_of Try.func23 rfl Try.ntmps23 rfl fun a hF => ?_
  have hM := Mem.start w0
  have hF := hF.sub (L' := [(0, (Value.agg (cl .u16 256 F))), (1, (Value.agg (cl .u16 256 G)))]) ⟨rfl, rfl, trivial⟩
  refine wp_seq ?_
  refine wp_region_lit ?_
  refine wlR (ok_box rfl) rfl hF ?_
  rintro _ w a ⟨b1, rfl, hnb_⟩ hF
  have hM : Mem w0 w [(b1, cl .u16 256 F, 27)] := hM.alloc hnb_
  refine wlR (ok_box rfl) rfl hF ?_
  rintro _ w a ⟨b2, rfl, hnb_⟩ hF
  have hM : Mem w0 w [(b1, cl .u16 256 F, 27), (b2, cl .u16 256 G, 27)] := hM.alloc hnb_
  refine wlR (ok_alloc z27) rfl hF ?_
  rintro _ w a ⟨b3, rfl, hnb_⟩ hF
  have hM : Mem w0 w [(b1, cl .u16 256 F, 27), (b2, cl .u16 256 G, 27), (b3, cl .u16 256 fun _ => 0, 27)] := hM.alloc hnb_
  refine wl_nil ?_
  have hF := hF.sub (L' := [(0, (Value.agg (cl .u16 256 F))), (1, (Value.agg (cl .u16 256 G))), (2, (Value.pointer (some ⟨b1, 0, none⟩))), (3, (Value.pointer (some ⟨b2, 0, none⟩))), (4, (Value.pointer (some ⟨b3, 0, none⟩)))]) ⟨rfl, rfl, rfl, rfl, rfl, trivial⟩
  refine then_n ?_
  refine wp_seq ?_
  refine wp_region_lit ?_
  refine wlR (ok_alloc z27) rfl hF ?_
  rintro _ w a ⟨b4, rfl, hnb_⟩ hF
  have hM : Mem w0 w [(b1, cl .u16 256 F, 27), (b2, cl .u16 256 G, 27), (b3, cl .u16 256 fun _ => 0, 27), (b4, cl .u16 256 fun _ => 0, 27)] := hM.alloc hnb_
  refine wl_nil ?_
  have hF := hF.sub (L' := [(0, (Value.agg (cl .u16 256 F))), (1, (Value.agg (cl .u16 256 G))), (2, (Value.pointer (some ⟨b1, 0, none⟩))), (3, (Value.pointer (some ⟨b2, 0, none⟩))), (4, (Value.pointer (some ⟨b3, 0, none⟩))), (5, (Value.pointer (some ⟨b4, 0, none⟩)))]) ⟨rfl, rfl, rfl, rfl, rfl, rfl, trivial⟩
  refine then_n ?_
  refine wp_seq ?_
  refine wp_seq ?_
  refine wp_region_lit ?_
  refine wl (d_assign rfl) rfl hF (fun a hF => ?_)
  refine wl_nil ?_
  have hF := hF.sub (L' := [(0, (Value.agg (cl .u16 256 F))), (1, (Value.agg (cl .u16 256 G))), (2, (Value.pointer (some ⟨b1, 0, none⟩))), (3, (Value.pointer (some ⟨b2, 0, none⟩))), (4, (Value.pointer (some ⟨b3, 0, none⟩))), (5, (Value.pointer (some ⟨b4, 0, none⟩))), (6, (Value.int .i64 0))]) ⟨rfl, rfl, rfl, rfl, rfl, rfl, rfl, trivial⟩
  refine then_n ?_
  refine wp_block ?_
  refine wp_loop_k (fun fu_ a w => ∃ i : Nat, fu_ = 256 - i ∧ (i ≤ 256) ∧ Frm a 26 [(2, (Value.pointer (some ⟨b1, 0, none⟩))), (3, (Value.pointer (some ⟨b2, 0, none⟩))), (4, (Value.pointer (some ⟨b3, 0, none⟩))), (5, (Value.pointer (some ⟨b4, 0, none⟩))), (6, (Value.int .i64 (i : Int)))] ∧ Mem w0 w [(b1, cl .u16 256 F, 27), (b2, cl .u16 256 G, 27), (b3, cl .u16 256 fun _ => 0, 27), (b4, cl .u16 256 (to i (rSub F G) (fun _ => 0)), 27)]) _ ⟨0, rfl, (by omega), hF.sub ⟨rfl, rfl, rfl, rfl, rfl, trivial⟩, ?_⟩ ?_
  · rw [to_zero]; exact hM
  rintro _ a w ⟨i, rfl, hl1_0, hF, hM⟩
  refine wp_seq ?_
  refine wp_seq ?_
  refine wp_region_lit ?_
  refine wl (d_move rfl) rfl hF (fun a hF => ?_)
  refine wl (d_lss rfl rfl) rfl hF (fun a hF => ?_)
  refine wl_nil ?_
  have hF := hF.sub (L' := [(2, (Value.pointer (some ⟨b1, 0, none⟩))), (3, (Value.pointer (some ⟨b2, 0, none⟩))), (4, (Value.pointer (some ⟨b3, 0, none⟩))), (5, (Value.pointer (some ⟨b4, 0, none⟩))), (6, (Value.int .i64 (i : Int))), (8, (Value.bool (decide ((i : Int) < 256))))]) ⟨rfl, rfl, rfl, rfl, rfl, rfl, trivial⟩
  refine then_n ?_
  refine wp_if hF rfl (fun h => ?_) (fun h => ?_)
  · have hlt := of_decide_eq_true h
    clear h
    have hf' := hf i (by omega)
    have hg' := hg i (by omega)
    refine wp_skip ?_
    refine then_n ?_
    refine wp_seq ?_
    refine wp_block ?_
    refine region_plan Tt mo (fun ph_ w => Mem w0 w (([[(b1, cl .u16 256 F, 27), (b2, cl .u16 256 G, 27), (b3, cl .u16 256 fun _ => 0, 27), (b4, cl .u16 256 (to i (rSub F G) (fun _ => 0)), 27)], [(b1, cl .u16 256 F, 27), (b2, cl .u16 256 G, 27), (b3, cl .u16 256 fun _ => 0, 27), (b4, cl .u16 256 (upd (to i (rSub F G) (fun _ => 0)) i (((F i + 66580) - G i) % 3329)), 27)]] : List (List Blk)).getD ph_ [])) [14] (rows := [⟨[], [(6, (Value.int .i64 (i : Int)))], [0], .val (Value.int .i64 (i : Int))⟩, ⟨[], [(6, (Value.int .i64 (i : Int)))], [0], .val (Value.int .i64 (i : Int))⟩, ⟨[(1, 12)], [(2, (Value.pointer (some ⟨b1, 0, none⟩)))], [0], .val (Value.pointer (some ⟨b1, i, none⟩))⟩, ⟨[(2, 13)], [], [0], .val (Value.int .u16 (F i))⟩, ⟨[(3, 14)], [], [0], .val (Value.int .i64 (F i))⟩, ⟨[(4, 15)], [], [0], .val (Value.int .i64 (F i + 66580))⟩, ⟨[], [(6, (Value.int .i64 (i : Int)))], [0], .val (Value.int .i64 (i : Int))⟩, ⟨[(6, 17)], [(3, (Value.pointer (some ⟨b2, 0, none⟩)))], [0], .val (Value.pointer (some ⟨b2, i, none⟩))⟩, ⟨[(7, 18)], [], [0], .val (Value.int .u16 (G i))⟩, ⟨[(8, 19)], [], [0], .val (Value.int .i64 (G i))⟩, ⟨[(5, 16), (9, 20)], [], [0], .val (Value.int .i64 ((F i + 66580) - G i))⟩, ⟨[(10, 21)], [], [0], .val (Value.int .i64 (((F i + 66580) - G i) % 3329))⟩, ⟨[(11, 22)], [], [0], .val (Value.int .u16 (((F i + 66580) - G i) % 3329))⟩, ⟨[(0, 11)], [(5, (Value.pointer (some ⟨b4, 0, none⟩)))], [0], .val (Value.pointer (some ⟨b4, i, none⟩))⟩, ⟨[(13, 24), (12, 23)], [], [0], .rel (fun _ _ => True) (fun _ _ _ _ _ => trivial)⟩]) (by kernel_rfl) hF hM.drew ?_ ?_
    · refine ⟨?_, ?_, ?_, ?_, ?_, ?_, ?_, ?_, ?_, ?_, ?_, ?_, ?_, ?_, ?_, trivial⟩
      · exact ⟨⟨rfl, trivial⟩, fun ph_ _ vs w hW _ => Det.ob hW (d_move rfl)⟩
      · exact ⟨⟨rfl, trivial⟩, fun ph_ _ vs w hW _ => Det.ob hW (d_move rfl)⟩
      · exact ⟨⟨rfl, trivial⟩, fun ph_ _ vs w hW _ => Det.ob hW (d_ixA0 (j := i) Try.underlying27 sz24 rfl rfl rfl (by omega))⟩
      · refine ⟨trivial, fun ph_ hp_ vs w hW _ => ?_⟩
        obtain rfl := memN_one hp_
        have hM : Mem w0 w [(b1, cl .u16 256 F, 27), (b2, cl .u16 256 G, 27), (b3, cl .u16 256 fun _ => 0, 27), (b4, cl .u16 256 (to i (rSub F G) (fun _ => 0)), 27)] := hW
        exact Det.ob hW (d_load1 Try.underlying24 rfl rfl (hM.cell 0 rfl (cl_get (by omega))))
      · exact ⟨trivial, fun ph_ _ vs w hW _ => Det.ob hW (d_conv Try.underlying24 Try.underlying3 rfl (wrap_i64 (by omega) (by omega)))⟩
      · exact ⟨trivial, fun ph_ _ vs w hW _ => Det.ob hW (d_add rfl rfl (wrap_i64 (by omega) (by omega)))⟩
      · exact ⟨⟨rfl, trivial⟩, fun ph_ _ vs w hW _ => Det.ob hW (d_move rfl)⟩
      · exact ⟨⟨rfl, trivial⟩, fun ph_ _ vs w hW _ => Det.ob hW (d_ixA0 (j := i) Try.underlying27 sz24 rfl rfl rfl (by omega))⟩
      · refine ⟨trivial, fun ph_ hp_ vs w hW _ => ?_⟩
        obtain rfl := memN_one hp_
        have hM : Mem w0 w [(b1, cl .u16 256 F, 27), (b2, cl .u16 256 G, 27), (b3, cl .u16 256 fun _ => 0, 27), (b4, cl .u16 256 (to i (rSub F G) (fun _ => 0)), 27)] := hW
        exact Det.ob hW (d_load1 Try.underlying24 rfl rfl (hM.cell 1 rfl (cl_get (by omega))))
      · exact ⟨trivial, fun ph_ _ vs w hW _ => Det.ob hW (d_conv Try.underlying24 Try.underlying3 rfl (wrap_i64 (by omega) (by omega)))⟩
      · exact ⟨trivial, fun ph_ _ vs w hW _ => Det.ob hW (d_sub rfl rfl (wrap_i64 (by omega) (by omega)))⟩
      · exact ⟨trivial, fun ph_ _ vs w hW _ => Det.ob hW (d_rem rfl rfl (by omega) (tmod_pos (by omega)))⟩
      · exact ⟨trivial, fun ph_ _ vs w hW _ => Det.ob hW (d_conv Try.underlying3 Try.underlying24 rfl (wrap_u16 (by omega) (by omega)))⟩
      · exact ⟨⟨rfl, trivial⟩, fun ph_ _ vs w hW _ => Det.ob hW (d_ixA0 (j := i) Try.underlying27 sz24 rfl rfl rfl (by omega))⟩
      · refine ⟨trivial, fun ph_ hp_ vs w hW _ => ?_⟩
        obtain rfl := memN_one hp_
        have hM : Mem w0 w [(b1, cl .u16 256 F, 27), (b2, cl .u16 256 G, 27), (b3, cl .u16 256 fun _ => 0, 27), (b4, cl .u16 256 (to i (rSub F G) (fun _ => 0)), 27)] := hW
        exact Ok1.obs (fun w' hu => by rw [cl_set] at hu; exact hM.upd 3 rfl hu) (ok_store1 (v := (Value.int .u16 (((F i + 66580) - G i) % 3329))) sz24 rfl rfl rfl (hM.at 3 rfl) (by rw [cl_size]; omega))
    · intro a w vs hW _ hF
      have hM : Mem w0 w [(b1, cl .u16 256 F, 27), (b2, cl .u16 256 G, 27), (b3, cl .u16 256 fun _ => 0, 27), (b4, cl .u16 256 (upd (to i (rSub F G) (fun _ => 0)) i (((F i + 66580) - G i) % 3329)), 27)] := hW
      have hF := hF.sub (L' := [(2, (Value.pointer (some ⟨b1, 0, none⟩))), (3, (Value.pointer (some ⟨b2, 0, none⟩))), (4, (Value.pointer (some ⟨b3, 0, none⟩))), (5, (Value.pointer (some ⟨b4, 0, none⟩))), (6, (Value.int .i64 (i : Int))), (8, (Value.bool (decide ((i : Int) < 256))))]) ⟨rfl, rfl, rfl, rfl, rfl, rfl, trivial⟩
      refine block_n ?_
      refine then_n ?_
      refine wp_region_lit ?_
      refine wl (d_move rfl) rfl hF (fun a hF => ?_)
      refine wl (d_add rfl rfl (wrap_i64 (by omega) (by omega))) rfl hF (fun a hF => ?_)
      refine wl (d_assign rfl) rfl hF (fun a hF => ?_)
      refine wl_nil ?_
      have hF := hF.sub (L' := [(2, (Value.pointer (some ⟨b1, 0, none⟩))), (3, (Value.pointer (some ⟨b2, 0, none⟩))), (4, (Value.pointer (some ⟨b3, 0, none⟩))), (5, (Value.pointer (some ⟨b4, 0, none⟩))), (6, (Value.int .i64 ((i : Int) + 1))), (8, (Value.bool (decide ((i : Int) < 256))))]) ⟨rfl, rfl, rfl, rfl, rfl, rfl, trivial⟩
      refine then_n ?_
      refine ⟨_, ?_, i + 1, rfl, (by omega), hF.sub ⟨rfl, rfl, rfl, rfl, rfl, trivial⟩, ?_⟩
      · omega
      rw [to_step (by rfl)] at hM
      exact hM
  · have hlt := of_decide_eq_false h
    clear h
    have hi : i = 256 := by omega
    rw [hi, to_all] at hM
    rw [rSub_eq] at hM
    refine wp_exit ?_
    refine then_exit ?_
    refine then_exit ?_
    refine block_exit ?_
    refine then_n ?_
    refine wp_seq ?_
    refine wp_region_lit ?_
    refine wl (d_loadA Try.underlying27 rfl sz27 rfl (hM.at 3 rfl) (cl_size _ _ _)) rfl hF (fun a hF => ?_)
    refine wl0R (ok_storeA (c' := cl .u16 256 (sSub F G)) sz27 rfl rfl (cl_size _ _ _) (cl_one _ _ _) (hM.at 2 rfl) (cl_size _ _ _)) hF ?_
    rintro w a hu hF
    have hM : Mem w0 w [(b1, cl .u16 256 F, 27), (b2, cl .u16 256 G, 27), (b3, cl .u16 256 (sSub F G), 27), (b4, cl .u16 256 (sSub F G), 27)] := hM.upd 2 rfl hu
    refine wl_nil ?_
    have hF := hF.sub (L' := [(2, (Value.pointer (some ⟨b1, 0, none⟩))), (3, (Value.pointer (some ⟨b2, 0, none⟩))), (4, (Value.pointer (some ⟨b3, 0, none⟩))), (5, (Value.pointer (some ⟨b4, 0, none⟩))), (6, (Value.int .i64 (i : Int))), (8, (Value.bool (decide ((i : Int) < 256))))]) ⟨rfl, rfl, rfl, rfl, rfl, rfl, trivial⟩
    refine then_n ?_
    refine wp_ret ?_
    refine body_ret hF (results1 Try.results23 (RV.cellA Try.underlying27 rfl sz27 hF rfl (hM.at 2 rfl) (cl_size _ _ _))) ?_
    exact ⟨rfl, hM.below⟩

set_option maxRecDepth 100000 in
theorem turned_calls {i : Nat} (hi : i < 128) (w0 : World) : Calls Try.prog 46 (List.toArray [.int .i64 (i : Int)]) w0 (Ret fun v w' => v = .int .i64 ((rb 7 i : Nat) : Int) ∧ Gr w0 w') := by
  refine calls_of Try.func46 rfl Try.ntmps46 rfl fun a hF => ?_
  have hM := Mem.start w0
  have hF := hF.sub (L' := [(0, (Value.int .i64 (i : Int)))]) ⟨rfl, trivial⟩
  refine wp_seq ?_
  refine wp_region_lit ?_
  refine wl (d_assign rfl) rfl hF (fun a hF => ?_)
  refine wl_nil ?_
  have hF := hF.sub (L' := [(0, (Value.int .i64 (i : Int))), (2, (Value.int .i64 0))]) ⟨rfl, rfl, trivial⟩
  refine then_n ?_
  refine wp_seq ?_
  refine wp_seq ?_
  refine wp_region_lit ?_
  refine wl (d_move rfl) rfl hF (fun a hF => ?_)
  refine wl_nil ?_
  have hF := hF.sub (L' := [(0, (Value.int .i64 (i : Int))), (2, (Value.int .i64 0)), (3, (Value.int .i64 0))]) ⟨rfl, rfl, rfl, trivial⟩
  refine then_n ?_
  refine wp_block ?_
  have hF : Frm a 14 [(0, Value.int .i64 ((i / 2 ^ 0 : Nat) : Int)), (2, Value.int .i64 ((rb 0 i : Nat) : Int)), (3, Value.int .i64 ((0 : Nat) : Int))] := by rw [show i / 2 ^ 0 = i by simp]; exact hF
  refine wp_loop_k (fun fu_ a w => ∃ t : Nat, fu_ = 7 - t ∧ (t ≤ 7) ∧ Frm a 14 [(0, (Value.int .i64 ((i / 2 ^ t : Nat) : Int))), (2, (Value.int .i64 ((rb t i : Nat) : Int))), (3, (Value.int .i64 (t : Int)))] ∧ Mem w0 w []) _ ⟨0, rfl, (by omega), hF.sub ⟨rfl, rfl, rfl, trivial⟩, ?_⟩ ?_
  · exact hM
  rintro _ a w ⟨t, rfl, hl1_0, hF, hM⟩
  have hr := rb_lt t i
  have hr2 : 2 ^ t ≤ 128 := Nat.pow_le_pow_right (n := 2) (by omega) (show t ≤ 7 by omega)
  have hd : i / 2 ^ t ≤ i := Nat.div_le_self _ _
  have hd0 : (0 : Int) ≤ ((i / 2 ^ t : Nat) : Int) := Int.natCast_nonneg _
  refine wp_seq ?_
  refine wp_region_lit ?_
  refine wl (d_lss rfl rfl) rfl hF (fun a hF => ?_)
  refine wl_nil ?_
  have hF := hF.sub (L' := [(0, (Value.int .i64 ((i / 2 ^ t : Nat) : Int))), (2, (Value.int .i64 ((rb t i : Nat) : Int))), (3, (Value.int .i64 (t : Int))), (4, (Value.bool (decide ((t : Int) < 7))))]) ⟨rfl, rfl, rfl, rfl, trivial⟩
  refine then_n ?_
  refine wp_seq ?_
  refine wp_if hF rfl (fun h => ?_) (fun h => ?_)
  · have hlt := of_decide_eq_true h
    clear h
    refine wp_skip ?_
    refine then_n ?_
    refine wp_seq ?_
    refine wp_block ?_
    refine wp_seq ?_
    refine wp_region_lit ?_
    refine wl (d_move rfl) rfl hF (fun a hF => ?_)
    refine wl (d_shl rfl rfl (by omega) (shl1_i64 (by omega) (by omega))) rfl hF (fun a hF => ?_)
    refine wl (d_move rfl) rfl hF (fun a hF => ?_)
    refine wl (d_and rfl rfl (and1_i64 (by omega) (by omega))) rfl hF (fun a hF => ?_)
    refine wl (d_or rfl rfl (or1_i64 (by omega) (by omega) (by omega) (by omega) (by omega))) rfl hF (fun a hF => ?_)
    refine wl (d_assign rfl) rfl hF (fun a hF => ?_)
    refine wl_nil ?_
    have hF := hF.sub (L' := [(0, (Value.int .i64 ((i / 2 ^ t : Nat) : Int))), (2, (Value.int .i64 (((rb t i : Nat) : Int) * 2 + ((i / 2 ^ t : Nat) : Int) % 2))), (3, (Value.int .i64 (t : Int))), (4, (Value.bool (decide ((t : Int) < 7))))]) ⟨rfl, rfl, rfl, rfl, trivial⟩
    refine then_n ?_
    refine wp_region_lit ?_
    refine wl (d_move rfl) rfl hF (fun a hF => ?_)
    refine wl (d_shr rfl rfl (by omega) (shr1_i64 _)) rfl hF (fun a hF => ?_)
    refine wl (d_assign rfl) rfl hF (fun a hF => ?_)
    refine wl_nil ?_
    have hF := hF.sub (L' := [(0, (Value.int .i64 (((i / 2 ^ t : Nat) : Int) / 2))), (2, (Value.int .i64 (((rb t i : Nat) : Int) * 2 + ((i / 2 ^ t : Nat) : Int) % 2))), (3, (Value.int .i64 (t : Int))), (4, (Value.bool (decide ((t : Int) < 7))))]) ⟨rfl, rfl, rfl, rfl, trivial⟩
    refine block_n ?_
    refine then_n ?_
    refine wp_region_lit ?_
    refine wl (d_add rfl rfl (wrap_i64 (by omega) (by omega))) rfl hF (fun a hF => ?_)
    refine wl (d_move rfl) rfl hF (fun a hF => ?_)
    refine wl_nil ?_
    have hF := hF.sub (L' := [(0, (Value.int .i64 (((i / 2 ^ t : Nat) : Int) / 2))), (2, (Value.int .i64 (((rb t i : Nat) : Int) * 2 + ((i / 2 ^ t : Nat) : Int) % 2))), (3, (Value.int .i64 ((t : Int) + 1))), (4, (Value.bool (decide ((t : Int) < 7))))]) ⟨rfl, rfl, rfl, rfl, trivial⟩
    refine then_n ?_
    have hF : Frm a 14 [(0, Value.int .i64 ((i / 2 ^ (t + 1) : Nat) : Int)), (2, Value.int .i64 ((rb (t + 1) i : Nat) : Int)), (3, Value.int .i64 ((t + 1 : Nat) : Int))] := by
      rw [show ((i / 2 ^ (t + 1) : Nat) : Int) = ((i / 2 ^ t : Nat) : Int) / 2 from by rw [Nat.pow_succ, ← Nat.div_div_eq_div_mul]; rfl, show ((rb (t + 1) i : Nat) : Int) = ((rb t i : Nat) : Int) * 2 + ((i / 2 ^ t : Nat) : Int) % 2 from by simp only [rb]; omega]
      exact hF.sub ⟨rfl, rfl, rfl, trivial⟩
    refine ⟨_, ?_, t + 1, rfl, (by omega), hF.sub ⟨rfl, rfl, rfl, trivial⟩, ?_⟩
    · omega
    exact hM
  · have hlt := of_decide_eq_false h
    clear h
    have ht : t = 7 := by omega
    refine wp_exit ?_
    refine then_exit ?_
    refine then_exit ?_
    refine block_exit ?_
    refine then_n ?_
    refine wp_seq ?_
    refine wp_region_lit ?_
    refine wl (d_move rfl) rfl hF (fun a hF => ?_)
    refine wl (d_assign rfl) rfl hF (fun a hF => ?_)
    refine wl_nil ?_
    have hF := hF.sub (L' := [(0, (Value.int .i64 ((i / 2 ^ t : Nat) : Int))), (2, (Value.int .i64 ((rb t i : Nat) : Int))), (3, (Value.int .i64 (t : Int))), (4, (Value.bool (decide ((t : Int) < 7))))]) ⟨rfl, rfl, rfl, rfl, trivial⟩
    refine then_n ?_
    refine wp_ret ?_
    refine body_ret hF (results1 Try.results46 (RV.tmp hF rfl)) ?_
    exact ⟨by rw [ht], hM.below⟩

set_option maxRecDepth 100000 in
theorem zetas_calls  (w0 : World) : Calls Try.prog 35 (List.toArray []) w0 (Ret fun v w' => v = .agg (cl .u32 128 zt) ∧ Gr w0 w') := by
  refine calls_of Try.func35 rfl Try.ntmps35 rfl fun a hF => ?_
  have hM := Mem.start w0
  have hF := hF.sub (L' := []) trivial
  refine wp_seq ?_
  refine wp_region_lit ?_
  refine wlR (ok_alloc z54) rfl hF ?_
  rintro _ w a ⟨b1, rfl, hnb_⟩ hF
  have hM : Mem w0 w [(b1, cl .u32 128 fun _ => 0, 54)] := hM.alloc hnb_
  refine wl_nil ?_
  have hF := hF.sub (L' := [(0, (Value.pointer (some ⟨b1, 0, none⟩)))]) ⟨rfl, trivial⟩
  refine then_n ?_
  refine wp_seq ?_
  refine wp_region_lit ?_
  refine wlR (ok_alloc z54) rfl hF ?_
  rintro _ w a ⟨b2, rfl, hnb_⟩ hF
  have hM : Mem w0 w [(b1, cl .u32 128 fun _ => 0, 54), (b2, cl .u32 128 fun _ => 0, 54)] := hM.alloc hnb_
  refine wl_nil ?_
  have hF := hF.sub (L' := [(0, (Value.pointer (some ⟨b1, 0, none⟩))), (1, (Value.pointer (some ⟨b2, 0, none⟩)))]) ⟨rfl, rfl, trivial⟩
  refine then_n ?_
  refine wp_seq ?_
  refine wp_region_lit ?_
  refine wl (d_ixA0 (j := 0) Try.underlying54 sz53 rfl rfl rfl (by omega)) rfl hF (fun a hF => ?_)
  refine wl0R (ok_store1 (v := (Value.int .u32 1)) sz53 rfl rfl rfl (hM.at 1 rfl) (by rw [cl_size]; omega)) hF ?_
  rintro w a hu hF
  rw [cl_set] at hu
  have hM : Mem w0 w [(b1, cl .u32 128 fun _ => 0, 54), (b2, cl .u32 128 (upd (fun _ => 0) 0 1), 54)] := hM.upd 1 rfl hu
  refine wl_nil ?_
  have hF := hF.sub (L' := [(0, (Value.pointer (some ⟨b1, 0, none⟩))), (1, (Value.pointer (some ⟨b2, 0, none⟩)))]) ⟨rfl, rfl, trivial⟩
  refine then_n ?_
  refine wp_seq ?_
  refine wp_seq ?_
  refine wp_region_lit ?_
  refine wl (d_assign rfl) rfl hF (fun a hF => ?_)
  refine wl_nil ?_
  have hF := hF.sub (L' := [(0, (Value.pointer (some ⟨b1, 0, none⟩))), (1, (Value.pointer (some ⟨b2, 0, none⟩))), (2, (Value.int .i64 1))]) ⟨rfl, rfl, rfl, trivial⟩
  refine then_n ?_
  refine wp_block ?_
  refine wp_loop_k (fun fu_ a w => ∃ i : Nat, fu_ = 128 - i ∧ (1 ≤ i) ∧ (i ≤ 128) ∧ Frm a 28 [(0, (Value.pointer (some ⟨b1, 0, none⟩))), (1, (Value.pointer (some ⟨b2, 0, none⟩))), (2, (Value.int .i64 (i : Int)))] ∧ Mem w0 w [(b1, cl .u32 128 fun _ => 0, 54), (b2, cl .u32 128 (to i pw (fun _ => 0)), 54)]) _ ⟨1, rfl, (by omega), (by omega), hF.sub ⟨rfl, rfl, rfl, trivial⟩, ?_⟩ ?_
  · rw [show upd (fun _ => (0 : Int)) 0 1 = to 1 pw (fun _ => 0) from by funext j; simp only [upd, to]; by_cases h : j = 0 <;> simp [h, pw]] at hM; exact hM
  rintro _ a w ⟨i, rfl, hl1_0, hl1_1, hF, hM⟩
  refine wp_seq ?_
  refine wp_seq ?_
  refine wp_region_lit ?_
  refine wl (d_move rfl) rfl hF (fun a hF => ?_)
  refine wl (d_lss rfl rfl) rfl hF (fun a hF => ?_)
  refine wl_nil ?_
  have hF := hF.sub (L' := [(0, (Value.pointer (some ⟨b1, 0, none⟩))), (1, (Value.pointer (some ⟨b2, 0, none⟩))), (2, (Value.int .i64 (i : Int))), (6, (Value.bool (decide ((i : Int) < 128))))]) ⟨rfl, rfl, rfl, rfl, trivial⟩
  refine then_n ?_
  refine wp_if hF rfl (fun h => ?_) (fun h => ?_)
  · have hlt := of_decide_eq_true h
    clear h
    have e1 := to_lt (k := i) (i := i - 1) pw (fun _ => 0) (by omega)
    have e2 : pw i = pw (i - 1) * 17 % 3329 := by obtain ⟨j, rfl⟩ : ∃ j, i = j + 1 := ⟨i - 1, by omega⟩; rfl
    have e3 := pw_b (i - 1)
    refine wp_skip ?_
    refine then_n ?_
    refine wp_seq ?_
    refine wp_block ?_
    refine wp_region_lit ?_
    refine wl (d_move rfl) rfl hF (fun a hF => ?_)
    refine wl (d_move rfl) rfl hF (fun a hF => ?_)
    refine wl (d_sub rfl rfl (wrap_i64 (by omega) (by omega))) rfl hF (fun a hF => ?_)
    refine wl (d_ixA0 (j := i - 1) Try.underlying54 sz53 rfl rfl (by omega) (by omega)) rfl hF (fun a hF => ?_)
    refine wl (d_load1 Try.underlying53 rfl rfl (hM.cell 1 rfl (cl_get (by omega)))) rfl hF (fun a hF => ?_)
    refine wl (d_mul rfl rfl (wrap_u32 (by omega) (by omega))) rfl hF (fun a hF => ?_)
    refine wl (d_rem rfl rfl (by omega) (tmod_pos (by omega))) rfl hF (fun a hF => ?_)
    refine wl (d_ixA0 (j := i) Try.underlying54 sz53 rfl rfl rfl (by omega)) rfl hF (fun a hF => ?_)
    refine wl0R (ok_store1 (v := (Value.int .u32 (((to i pw (fun _ => 0)) (i - 1) * 17) % 3329))) sz53 rfl rfl rfl (hM.at 1 rfl) (by rw [cl_size]; omega)) hF ?_
    rintro w a hu hF
    rw [cl_set] at hu
    have hM : Mem w0 w [(b1, cl .u32 128 fun _ => 0, 54), (b2, cl .u32 128 (upd (to i pw (fun _ => 0)) i (((to i pw (fun _ => 0)) (i - 1) * 17) % 3329)), 54)] := hM.upd 1 rfl hu
    refine wl_nil ?_
    have hF := hF.sub (L' := [(0, (Value.pointer (some ⟨b1, 0, none⟩))), (1, (Value.pointer (some ⟨b2, 0, none⟩))), (2, (Value.int .i64 (i : Int))), (6, (Value.bool (decide ((i : Int) < 128))))]) ⟨rfl, rfl, rfl, rfl, trivial⟩
    refine block_n ?_
    refine then_n ?_
    refine wp_region_lit ?_
    refine wl (d_move rfl) rfl hF (fun a hF => ?_)
    refine wl (d_add rfl rfl (wrap_i64 (by omega) (by omega))) rfl hF (fun a hF => ?_)
    refine wl (d_assign rfl) rfl hF (fun a hF => ?_)
    refine wl_nil ?_
    have hF := hF.sub (L' := [(0, (Value.pointer (some ⟨b1, 0, none⟩))), (1, (Value.pointer (some ⟨b2, 0, none⟩))), (2, (Value.int .i64 ((i : Int) + 1))), (6, (Value.bool (decide ((i : Int) < 128))))]) ⟨rfl, rfl, rfl, rfl, trivial⟩
    refine then_n ?_
    refine ⟨_, ?_, i + 1, rfl, (by omega), (by omega), hF.sub ⟨rfl, rfl, rfl, trivial⟩, ?_⟩
    · omega
    rw [to_step (by rw [e1]; exact e2.symm)] at hM
    exact hM
  · have hlt := of_decide_eq_false h
    clear h
    have hi : i = 128 := by omega
    rw [hi, to_all] at hM
    refine wp_exit ?_
    refine then_exit ?_
    refine then_exit ?_
    refine block_exit ?_
    refine then_n ?_
    refine wp_seq ?_
    refine wp_seq ?_
    refine wp_region_lit ?_
    refine wl (d_move rfl) rfl hF (fun a hF => ?_)
    refine wl_nil ?_
    have hF := hF.sub (L' := [(0, (Value.pointer (some ⟨b1, 0, none⟩))), (1, (Value.pointer (some ⟨b2, 0, none⟩))), (2, (Value.int .i64 (i : Int))), (6, (Value.bool (decide ((i : Int) < 128)))), (17, (Value.int .i64 0))]) ⟨rfl, rfl, rfl, rfl, rfl, trivial⟩
    refine then_n ?_
    refine wp_block ?_
    refine wp_loop_k (fun fu_ a w => ∃ i : Nat, fu_ = 128 - i ∧ (i ≤ 128) ∧ Frm a 28 [(0, (Value.pointer (some ⟨b1, 0, none⟩))), (1, (Value.pointer (some ⟨b2, 0, none⟩))), (17, (Value.int .i64 (i : Int)))] ∧ Mem w0 w [(b1, cl .u32 128 (to i zt (fun _ => 0)), 54), (b2, cl .u32 128 pw, 54)]) _ ⟨0, rfl, (by omega), hF.sub ⟨rfl, rfl, rfl, trivial⟩, ?_⟩ ?_
    · rw [to_zero]; exact hM
    rintro _ a w ⟨i, rfl, hl2_0, hF, hM⟩
    refine wp_seq ?_
    refine wp_region_lit ?_
    refine wl (d_lss rfl rfl) rfl hF (fun a hF => ?_)
    refine wl_nil ?_
    have hF := hF.sub (L' := [(0, (Value.pointer (some ⟨b1, 0, none⟩))), (1, (Value.pointer (some ⟨b2, 0, none⟩))), (17, (Value.int .i64 (i : Int))), (18, (Value.bool (decide ((i : Int) < 128))))]) ⟨rfl, rfl, rfl, rfl, trivial⟩
    refine then_n ?_
    refine wp_seq ?_
    refine wp_if hF rfl (fun h => ?_) (fun h => ?_)
    · have hlt2 := of_decide_eq_true h
      clear h
      have hr7 := rb7_lt i
      refine wp_skip ?_
      refine then_n ?_
      refine wp_seq ?_
      refine wp_block ?_
      refine wp_seq ?_
      refine wp_region_lit ?_
      refine wl (d_move rfl) rfl hF (fun a hF => ?_)
      refine wl (d_assign rfl) rfl hF (fun a hF => ?_)
      refine wl_nil ?_
      have hF := hF.sub (L' := [(0, (Value.pointer (some ⟨b1, 0, none⟩))), (1, (Value.pointer (some ⟨b2, 0, none⟩))), (3, (Value.int .i64 (i : Int))), (17, (Value.int .i64 (i : Int))), (18, (Value.bool (decide ((i : Int) < 128))))]) ⟨rfl, rfl, rfl, rfl, rfl, trivial⟩
      refine then_n ?_
      refine wp_region_lit ?_
      refine wl (d_move rfl) rfl hF (fun a hF => ?_)
      refine wl (d_move rfl) rfl hF (fun a hF => ?_)
      refine wlR (ok_call c46 rfl (turned_calls (i := i) (by omega) _)) rfl hF ?_
      rintro _ w a ⟨rfl, hg⟩ hF
      have hM := hM.call hg
      refine wl (d_ixA0 (j := rb 7 i) Try.underlying54 sz53 rfl rfl rfl (by omega)) rfl hF (fun a hF => ?_)
      refine wl (d_load1 Try.underlying53 rfl rfl (hM.cell 1 rfl (cl_get (by omega)))) rfl hF (fun a hF => ?_)
      refine wl (d_ixA0 (j := i) Try.underlying54 sz53 rfl rfl rfl (by omega)) rfl hF (fun a hF => ?_)
      refine wl0R (ok_store1 (v := (Value.int .u32 (pw (rb 7 i)))) sz53 rfl rfl rfl (hM.at 0 rfl) (by rw [cl_size]; omega)) hF ?_
      rintro w a hu hF
      rw [cl_set] at hu
      have hM : Mem w0 w [(b1, cl .u32 128 (upd (to i zt (fun _ => 0)) i (pw (rb 7 i))), 54), (b2, cl .u32 128 pw, 54)] := hM.upd 0 rfl hu
      refine wl_nil ?_
      have hF := hF.sub (L' := [(0, (Value.pointer (some ⟨b1, 0, none⟩))), (1, (Value.pointer (some ⟨b2, 0, none⟩))), (3, (Value.int .i64 (i : Int))), (17, (Value.int .i64 (i : Int))), (18, (Value.bool (decide ((i : Int) < 128))))]) ⟨rfl, rfl, rfl, rfl, rfl, trivial⟩
      refine block_n ?_
      refine then_n ?_
      refine wp_region_lit ?_
      refine wl (d_add rfl rfl (wrap_i64 (by omega) (by omega))) rfl hF (fun a hF => ?_)
      refine wl (d_move rfl) rfl hF (fun a hF => ?_)
      refine wl_nil ?_
      have hF := hF.sub (L' := [(0, (Value.pointer (some ⟨b1, 0, none⟩))), (1, (Value.pointer (some ⟨b2, 0, none⟩))), (3, (Value.int .i64 (i : Int))), (17, (Value.int .i64 ((i : Int) + 1))), (18, (Value.bool (decide ((i : Int) < 128))))]) ⟨rfl, rfl, rfl, rfl, rfl, trivial⟩
      refine then_n ?_
      refine ⟨_, ?_, i + 1, rfl, (by omega), hF.sub ⟨rfl, rfl, rfl, trivial⟩, ?_⟩
      · omega
      rw [to_step (by rfl)] at hM
      exact hM
    · have hlt2 := of_decide_eq_false h
      clear h
      have hi : i = 128 := by omega
      rw [hi, to_all] at hM
      refine wp_exit ?_
      refine then_exit ?_
      refine then_exit ?_
      refine block_exit ?_
      refine then_n ?_
      refine wp_seq ?_
      refine wp_region_lit ?_
      refine wl (d_loadA Try.underlying54 rfl sz54 rfl (hM.at 0 rfl) (cl_size _ _ _)) rfl hF (fun a hF => ?_)
      refine wl0R (ok_storeA (c' := cl .u32 128 zt) sz54 rfl rfl (cl_size _ _ _) (cl_one _ _ _) (hM.at 0 rfl) (cl_size _ _ _)) hF ?_
      rintro w a hu hF
      have hM : Mem w0 w [(b1, cl .u32 128 zt, 54), (b2, cl .u32 128 pw, 54)] := hM.upd 0 rfl hu
      refine wl_nil ?_
      have hF := hF.sub (L' := [(0, (Value.pointer (some ⟨b1, 0, none⟩))), (1, (Value.pointer (some ⟨b2, 0, none⟩))), (17, (Value.int .i64 (i : Int))), (18, (Value.bool (decide ((i : Int) < 128))))]) ⟨rfl, rfl, rfl, rfl, trivial⟩
      refine then_n ?_
      refine wp_ret ?_
      refine body_ret hF (results1 Try.results35 (RV.cellA Try.underlying54 rfl sz54 hF rfl (hM.at 0 rfl) (cl_size _ _ _))) ?_
      exact ⟨rfl, hM.below⟩

set_option maxRecDepth 100000 in
theorem RMay_calls {F : Nat → Int} (_hf : U16 F) (w0 : World) : Calls Try.prog 11 (List.toArray [.agg (cl .u16 256 F)]) w0 (Ret fun v w' => v = .bool (sMay F) ∧ Gr w0 w') := by
  refine calls_of Try.func11 rfl Try.ntmps11 rfl fun a hF => ?_
  have hM := Mem.start w0
  have hF := hF.sub (L' := [(0, (Value.agg (cl .u16 256 F)))]) ⟨rfl, trivial⟩
  refine wp_seq ?_
  refine wp_region_lit ?_
  refine wlR (ok_box rfl) rfl hF ?_
  rintro _ w a ⟨b1, rfl, hnb_⟩ hF
  have hM : Mem w0 w [(b1, cl .u16 256 F, 27)] := hM.alloc hnb_
  refine wl (d_assign rfl) rfl hF (fun a hF => ?_)
  refine wl_nil ?_
  have hF := hF.sub (L' := [(0, (Value.agg (cl .u16 256 F))), (1, (Value.pointer (some ⟨b1, 0, none⟩))), (2, (Value.bool false))]) ⟨rfl, rfl, rfl, trivial⟩
  refine then_n ?_
  refine wp_seq ?_
  refine wp_seq ?_
  refine wp_region_lit ?_
  refine wl (d_assign rfl) rfl hF (fun a hF => ?_)
  refine wl_nil ?_
  have hF := hF.sub (L' := [(0, (Value.agg (cl .u16 256 F))), (1, (Value.pointer (some ⟨b1, 0, none⟩))), (2, (Value.bool false)), (3, (Value.int .i64 0))]) ⟨rfl, rfl, rfl, rfl, trivial⟩
  refine then_n ?_
  refine wp_block ?_
  refine wp_loop_k (fun fu_ a w => ∃ i : Nat, fu_ = 256 - i ∧ (i ≤ 256) ∧ (∀ j, j < i → F j < 3329) ∧ Frm a 12 [(1, (Value.pointer (some ⟨b1, 0, none⟩))), (3, (Value.int .i64 (i : Int)))] ∧ Mem w0 w [(b1, cl .u16 256 F, 27)]) _ ⟨0, rfl, (by omega), (fun j hj => absurd hj (by omega)), hF.sub ⟨rfl, rfl, trivial⟩, ?_⟩ ?_
  · exact hM
  rintro _ a w ⟨i, rfl, hl1_0, hl1_1, hF, hM⟩
  refine wp_seq ?_
  refine wp_seq ?_
  refine wp_region_lit ?_
  refine wl (d_move rfl) rfl hF (fun a hF => ?_)
  refine wl (d_lss rfl rfl) rfl hF (fun a hF => ?_)
  refine wl_nil ?_
  have hF := hF.sub (L' := [(1, (Value.pointer (some ⟨b1, 0, none⟩))), (3, (Value.int .i64 (i : Int))), (5, (Value.bool (decide ((i : Int) < 256))))]) ⟨rfl, rfl, rfl, trivial⟩
  refine then_n ?_
  refine wp_if hF rfl (fun h => ?_) (fun h => ?_)
  · have hlt := of_decide_eq_true h
    clear h
    refine wp_skip ?_
    refine then_n ?_
    refine wp_seq ?_
    refine wp_block ?_
    refine wp_seq ?_
    refine wp_region_lit ?_
    refine wl (d_move rfl) rfl hF (fun a hF => ?_)
    refine wl (d_ixA0 (j := i) Try.underlying27 sz24 rfl rfl rfl (by omega)) rfl hF (fun a hF => ?_)
    refine wl (d_load1 Try.underlying24 rfl rfl (hM.cell 0 rfl (cl_get (by omega)))) rfl hF (fun a hF => ?_)
    refine wl (d_geq rfl rfl) rfl hF (fun a hF => ?_)
    refine wl_nil ?_
    have hF := hF.sub (L' := [(1, (Value.pointer (some ⟨b1, 0, none⟩))), (3, (Value.int .i64 (i : Int))), (5, (Value.bool (decide ((i : Int) < 256)))), (11, (Value.bool (decide (3329 ≤ F i))))]) ⟨rfl, rfl, rfl, rfl, trivial⟩
    refine then_n ?_
    refine wp_if hF rfl (fun h => ?_) (fun h => ?_)
    · have hc := of_decide_eq_true h
      clear h
      have hno : sMay F = false := sMay_no (i := i) (by omega) (by omega)
      refine wp_seq ?_
      refine wp_region_lit ?_
      refine wl (d_assign rfl) rfl hF (fun a hF => ?_)
      refine wl_nil ?_
      have hF := hF.sub (L' := [(1, (Value.pointer (some ⟨b1, 0, none⟩))), (2, (Value.bool false)), (3, (Value.int .i64 (i : Int))), (5, (Value.bool (decide ((i : Int) < 256)))), (11, (Value.bool (decide (3329 ≤ F i))))]) ⟨rfl, rfl, rfl, rfl, rfl, trivial⟩
      refine then_n ?_
      refine wp_ret ?_
      refine block_ret ?_
      refine then_ret ?_
      refine then_ret ?_
      refine block_ret ?_
      refine then_ret ?_
      refine body_ret hF (results1 Try.results11 (RV.tmp hF rfl)) ?_
      exact ⟨by rw [hno], hM.below⟩
    · have hc := of_decide_eq_false h
      clear h
      have hc : F i < 3329 := by omega
      refine wp_skip ?_
      refine block_n ?_
      refine then_n ?_
      refine wp_region_lit ?_
      refine wl (d_move rfl) rfl hF (fun a hF => ?_)
      refine wl (d_add rfl rfl (wrap_i64 (by omega) (by omega))) rfl hF (fun a hF => ?_)
      refine wl (d_assign rfl) rfl hF (fun a hF => ?_)
      refine wl_nil ?_
      have hF := hF.sub (L' := [(1, (Value.pointer (some ⟨b1, 0, none⟩))), (3, (Value.int .i64 ((i : Int) + 1))), (5, (Value.bool (decide ((i : Int) < 256)))), (11, (Value.bool (decide (3329 ≤ F i))))]) ⟨rfl, rfl, rfl, rfl, trivial⟩
      refine then_n ?_
      refine ⟨_, ?_, i + 1, rfl, (by omega), (fun j hj => if h : j < i then hl1_1 j h else (show i = j by omega) ▸ hc), hF.sub ⟨rfl, rfl, trivial⟩, ?_⟩
      · omega
      exact hM
  · have hlt := of_decide_eq_false h
    clear h
    have hi : i = 256 := by omega
    have hall : sMay F = true := sMay_of fun j hj => hl1_1 j (by omega)
    refine wp_exit ?_
    refine then_exit ?_
    refine then_exit ?_
    refine block_exit ?_
    refine then_n ?_
    refine wp_seq ?_
    refine wp_region_lit ?_
    refine wl (d_assign rfl) rfl hF (fun a hF => ?_)
    refine wl_nil ?_
    have hF := hF.sub (L' := [(1, (Value.pointer (some ⟨b1, 0, none⟩))), (2, (Value.bool true)), (3, (Value.int .i64 (i : Int))), (5, (Value.bool (decide ((i : Int) < 256))))]) ⟨rfl, rfl, rfl, rfl, trivial⟩
    refine then_n ?_
    refine wp_ret ?_
    refine body_ret hF (results1 Try.results11 (RV.tmp hF rfl)) ?_
    exact ⟨by rw [hall], hM.below⟩

set_option maxRecDepth 100000 in
theorem May_calls {F : Nat → Int} (_hf : U16 F) (w0 : World) : Calls Try.prog 21 (List.toArray [.agg (cl .u16 256 F)]) w0 (Ret fun v w' => v = .bool (sMay F) ∧ Gr w0 w') := by
  refine calls_of Try.func21 rfl Try.ntmps21 rfl fun a hF => ?_
  have hM := Mem.start w0
  have hF := hF.sub (L' := [(0, (Value.agg (cl .u16 256 F)))]) ⟨rfl, trivial⟩
  refine wp_seq ?_
  refine wp_region_lit ?_
  refine wlR (ok_box rfl) rfl hF ?_
  rintro _ w a ⟨b1, rfl, hnb_⟩ hF
  have hM : Mem w0 w [(b1, cl .u16 256 F, 26)] := hM.alloc hnb_
  refine wl (d_assign rfl) rfl hF (fun a hF => ?_)
  refine wl_nil ?_
  have hF := hF.sub (L' := [(0, (Value.agg (cl .u16 256 F))), (1, (Value.pointer (some ⟨b1, 0, none⟩))), (2, (Value.bool false))]) ⟨rfl, rfl, rfl, trivial⟩
  refine then_n ?_
  refine wp_seq ?_
  refine wp_seq ?_
  refine wp_region_lit ?_
  refine wl (d_loadA Try.underlying26 rfl sz26 rfl (hM.at 0 rfl) (cl_size _ _ _)) rfl hF (fun a hF => ?_)
  refine wl (d_move rfl) rfl hF (fun a hF => ?_)
  refine wl_nil ?_
  have hF := hF.sub (L' := [(0, (Value.agg (cl .u16 256 F))), (1, (Value.pointer (some ⟨b1, 0, none⟩))), (2, (Value.bool false)), (5, (Value.agg (cl .u16 256 F))), (6, (Value.int .i64 0))]) ⟨rfl, rfl, rfl, rfl, rfl, trivial⟩
  refine then_n ?_
  refine wp_block ?_
  refine wp_loop_k (fun fu_ a w => ∃ i : Nat, fu_ = 256 - i ∧ (i ≤ 256) ∧ (∀ j, j < i → F j < 3329) ∧ Frm a 12 [(1, (Value.pointer (some ⟨b1, 0, none⟩))), (5, (Value.agg (cl .u16 256 F))), (6, (Value.int .i64 (i : Int)))] ∧ Mem w0 w [(b1, cl .u16 256 F, 26)]) _ ⟨0, rfl, (by omega), (fun j hj => absurd hj (by omega)), hF.sub ⟨rfl, rfl, rfl, trivial⟩, ?_⟩ ?_
  · exact hM
  rintro _ a w ⟨i, rfl, hl1_0, hl1_1, hF, hM⟩
  refine wp_seq ?_
  refine wp_region_lit ?_
  refine wl (d_lss rfl rfl) rfl hF (fun a hF => ?_)
  refine wl_nil ?_
  have hF := hF.sub (L' := [(1, (Value.pointer (some ⟨b1, 0, none⟩))), (5, (Value.agg (cl .u16 256 F))), (6, (Value.int .i64 (i : Int))), (7, (Value.bool (decide ((i : Int) < 256))))]) ⟨rfl, rfl, rfl, rfl, trivial⟩
  refine then_n ?_
  refine wp_seq ?_
  refine wp_if hF rfl (fun h => ?_) (fun h => ?_)
  · have hlt := of_decide_eq_true h
    clear h
    refine wp_skip ?_
    refine then_n ?_
    refine wp_seq ?_
    refine wp_block ?_
    refine wp_seq ?_
    refine wp_region_lit ?_
    refine wl (d_indexN (j := i) Try.underlying26 Try.underlying24 rfl sz24 rfl rfl rfl (by omega) (cl_get (by omega))) rfl hF (fun a hF => ?_)
    refine wl (d_assign rfl) rfl hF (fun a hF => ?_)
    refine wl_nil ?_
    have hF := hF.sub (L' := [(1, (Value.pointer (some ⟨b1, 0, none⟩))), (4, (Value.int .u16 (F i))), (5, (Value.agg (cl .u16 256 F))), (6, (Value.int .i64 (i : Int))), (7, (Value.bool (decide ((i : Int) < 256))))]) ⟨rfl, rfl, rfl, rfl, rfl, trivial⟩
    refine then_n ?_
    refine wp_seq ?_
    refine wp_region_lit ?_
    refine wl (d_move rfl) rfl hF (fun a hF => ?_)
    refine wl (d_geq rfl rfl) rfl hF (fun a hF => ?_)
    refine wl_nil ?_
    have hF := hF.sub (L' := [(1, (Value.pointer (some ⟨b1, 0, none⟩))), (4, (Value.int .u16 (F i))), (5, (Value.agg (cl .u16 256 F))), (6, (Value.int .i64 (i : Int))), (7, (Value.bool (decide ((i : Int) < 256)))), (10, (Value.bool (decide (3329 ≤ F i))))]) ⟨rfl, rfl, rfl, rfl, rfl, rfl, trivial⟩
    refine then_n ?_
    refine wp_if hF rfl (fun h => ?_) (fun h => ?_)
    · have hc := of_decide_eq_true h
      clear h
      have hno : sMay F = false := sMay_no (i := i) (by omega) (by omega)
      refine wp_seq ?_
      refine wp_region_lit ?_
      refine wl (d_assign rfl) rfl hF (fun a hF => ?_)
      refine wl_nil ?_
      have hF := hF.sub (L' := [(1, (Value.pointer (some ⟨b1, 0, none⟩))), (2, (Value.bool false)), (4, (Value.int .u16 (F i))), (5, (Value.agg (cl .u16 256 F))), (6, (Value.int .i64 (i : Int))), (7, (Value.bool (decide ((i : Int) < 256)))), (10, (Value.bool (decide (3329 ≤ F i))))]) ⟨rfl, rfl, rfl, rfl, rfl, rfl, rfl, trivial⟩
      refine then_n ?_
      refine wp_ret ?_
      refine block_ret ?_
      refine then_ret ?_
      refine then_ret ?_
      refine block_ret ?_
      refine then_ret ?_
      refine body_ret hF (results1 Try.results21 (RV.tmp hF rfl)) ?_
      exact ⟨by rw [hno], hM.below⟩
    · have hc := of_decide_eq_false h
      clear h
      have hc : F i < 3329 := by omega
      refine wp_skip ?_
      refine block_n ?_
      refine then_n ?_
      refine wp_region_lit ?_
      refine wl (d_add rfl rfl (wrap_i64 (by omega) (by omega))) rfl hF (fun a hF => ?_)
      refine wl (d_move rfl) rfl hF (fun a hF => ?_)
      refine wl_nil ?_
      have hF := hF.sub (L' := [(1, (Value.pointer (some ⟨b1, 0, none⟩))), (4, (Value.int .u16 (F i))), (5, (Value.agg (cl .u16 256 F))), (6, (Value.int .i64 ((i : Int) + 1))), (7, (Value.bool (decide ((i : Int) < 256)))), (10, (Value.bool (decide (3329 ≤ F i))))]) ⟨rfl, rfl, rfl, rfl, rfl, rfl, trivial⟩
      refine then_n ?_
      refine ⟨_, ?_, i + 1, rfl, (by omega), (fun j hj => if h : j < i then hl1_1 j h else (show i = j by omega) ▸ hc), hF.sub ⟨rfl, rfl, rfl, trivial⟩, ?_⟩
      · omega
      exact hM
  · have hlt := of_decide_eq_false h
    clear h
    have hi : i = 256 := by omega
    have hall : sMay F = true := sMay_of fun j hj => hl1_1 j (by omega)
    refine wp_exit ?_
    refine then_exit ?_
    refine then_exit ?_
    refine block_exit ?_
    refine then_n ?_
    refine wp_seq ?_
    refine wp_region_lit ?_
    refine wl (d_assign rfl) rfl hF (fun a hF => ?_)
    refine wl_nil ?_
    have hF := hF.sub (L' := [(1, (Value.pointer (some ⟨b1, 0, none⟩))), (2, (Value.bool true)), (5, (Value.agg (cl .u16 256 F))), (6, (Value.int .i64 (i : Int))), (7, (Value.bool (decide ((i : Int) < 256))))]) ⟨rfl, rfl, rfl, rfl, rfl, trivial⟩
    refine then_n ?_
    refine wp_ret ?_
    refine body_ret hF (results1 Try.results21 (RV.tmp hF rfl)) ?_
    exact ⟨by rw [hall], hM.below⟩

set_option maxRecDepth 100000 in
theorem is_calls (F G : Nat → Int) (w0 : World) : Calls Try.prog 13 (List.toArray [.agg (cl .u16 256 F), .agg (cl .u16 256 G)]) w0 (Ret fun v w' => v = .bool (sIs F G) ∧ Gr w0 w') := by
  refine calls_of Try.func13 rfl Try.ntmps13 rfl fun a hF => ?_
  have hM := Mem.start w0
  have hF := hF.sub (L' := [(0, (Value.agg (cl .u16 256 F))), (1, (Value.agg (cl .u16 256 G)))]) ⟨rfl, rfl, trivial⟩
  refine wp_seq ?_
  refine wp_region_lit ?_
  refine wlR (ok_box rfl) rfl hF ?_
  rintro _ w a ⟨b1, rfl, hnb_⟩ hF
  have hM : Mem w0 w [(b1, cl .u16 256 F, 26)] := hM.alloc hnb_
  refine wlR (ok_box rfl) rfl hF ?_
  rintro _ w a ⟨b2, rfl, hnb_⟩ hF
  have hM : Mem w0 w [(b1, cl .u16 256 F, 26), (b2, cl .u16 256 G, 27)] := hM.alloc hnb_
  refine wl (d_assign rfl) rfl hF (fun a hF => ?_)
  refine wl_nil ?_
  have hF := hF.sub (L' := [(0, (Value.agg (cl .u16 256 F))), (1, (Value.agg (cl .u16 256 G))), (2, (Value.pointer (some ⟨b1, 0, none⟩))), (3, (Value.pointer (some ⟨b2, 0, none⟩))), (4, (Value.bool false))]) ⟨rfl, rfl, rfl, rfl, rfl, trivial⟩
  refine then_n ?_
  refine wp_seq ?_
  refine wp_seq ?_
  refine wp_region_lit ?_
  refine wl (d_assign rfl) rfl hF (fun a hF => ?_)
  refine wl_nil ?_
  have hF := hF.sub (L' := [(0, (Value.agg (cl .u16 256 F))), (1, (Value.agg (cl .u16 256 G))), (2, (Value.pointer (some ⟨b1, 0, none⟩))), (3, (Value.pointer (some ⟨b2, 0, none⟩))), (4, (Value.bool false)), (5, (Value.int .i64 0))]) ⟨rfl, rfl, rfl, rfl, rfl, rfl, trivial⟩
  refine then_n ?_
  refine wp_block ?_
  refine wp_loop_k (fun fu_ a w => ∃ i : Nat, fu_ = 256 - i ∧ (i ≤ 256) ∧ (∀ j, j < i → F j = G j) ∧ Frm a 17 [(2, (Value.pointer (some ⟨b1, 0, none⟩))), (3, (Value.pointer (some ⟨b2, 0, none⟩))), (5, (Value.int .i64 (i : Int)))] ∧ Mem w0 w [(b1, cl .u16 256 F, 26), (b2, cl .u16 256 G, 27)]) _ ⟨0, rfl, (by omega), (fun j hj => absurd hj (by omega)), hF.sub ⟨rfl, rfl, rfl, trivial⟩, ?_⟩ ?_
  · exact hM
  rintro _ a w ⟨i, rfl, hl1_0, hl1_1, hF, hM⟩
  refine wp_seq ?_
  refine wp_seq ?_
  refine wp_region_lit ?_
  refine wl (d_move rfl) rfl hF (fun a hF => ?_)
  refine wl (d_lss rfl rfl) rfl hF (fun a hF => ?_)
  refine wl_nil ?_
  have hF := hF.sub (L' := [(2, (Value.pointer (some ⟨b1, 0, none⟩))), (3, (Value.pointer (some ⟨b2, 0, none⟩))), (5, (Value.int .i64 (i : Int))), (7, (Value.bool (decide ((i : Int) < 256))))]) ⟨rfl, rfl, rfl, rfl, trivial⟩
  refine then_n ?_
  refine wp_if hF rfl (fun h => ?_) (fun h => ?_)
  · have hlt := of_decide_eq_true h
    clear h
    refine wp_skip ?_
    refine then_n ?_
    refine wp_seq ?_
    refine wp_block ?_
    refine wp_seq ?_
    refine region_plan Tt mo (fun ph_ w => Mem w0 w (([[(b1, cl .u16 256 F, 26), (b2, cl .u16 256 G, 27)]] : List (List Blk)).getD ph_ [])) [] (rows := [⟨[], [(5, (Value.int .i64 (i : Int)))], [0], .val (Value.int .i64 (i : Int))⟩, ⟨[(0, 10)], [(2, (Value.pointer (some ⟨b1, 0, none⟩)))], [0], .val (Value.pointer (some ⟨b1, i, none⟩))⟩, ⟨[(1, 11)], [], [0], .val (Value.int .u16 (F i))⟩, ⟨[], [(5, (Value.int .i64 (i : Int)))], [0], .val (Value.int .i64 (i : Int))⟩, ⟨[(3, 13)], [(3, (Value.pointer (some ⟨b2, 0, none⟩)))], [0], .val (Value.pointer (some ⟨b2, i, none⟩))⟩, ⟨[(4, 14)], [], [0], .val (Value.int .u16 (G i))⟩, ⟨[(2, 12), (5, 15)], [], [0], .val (Value.bool (!decide (F i = G i)))⟩]) (by kernel_rfl) hF hM.drew ?_ ?_
    · refine ⟨?_, ?_, ?_, ?_, ?_, ?_, ?_, trivial⟩
      · exact ⟨⟨rfl, trivial⟩, fun ph_ _ vs w hW _ => Det.ob hW (d_move rfl)⟩
      · exact ⟨⟨rfl, trivial⟩, fun ph_ _ vs w hW _ => Det.ob hW (d_ixA0 (j := i) Try.underlying26 sz24 rfl rfl rfl (by omega))⟩
      · refine ⟨trivial, fun ph_ hp_ vs w hW _ => ?_⟩
        obtain rfl := memN_one hp_
        have hM : Mem w0 w [(b1, cl .u16 256 F, 26), (b2, cl .u16 256 G, 27)] := hW
        exact Det.ob hW (d_load1 Try.underlying24 rfl rfl (hM.cell 0 rfl (cl_get (by omega))))
      · exact ⟨⟨rfl, trivial⟩, fun ph_ _ vs w hW _ => Det.ob hW (d_move rfl)⟩
      · exact ⟨⟨rfl, trivial⟩, fun ph_ _ vs w hW _ => Det.ob hW (d_ixA0 (j := i) Try.underlying27 sz24 rfl rfl rfl (by omega))⟩
      · refine ⟨trivial, fun ph_ hp_ vs w hW _ => ?_⟩
        obtain rfl := memN_one hp_
        have hM : Mem w0 w [(b1, cl .u16 256 F, 26), (b2, cl .u16 256 G, 27)] := hW
        exact Det.ob hW (d_load1 Try.underlying24 rfl rfl (hM.cell 1 rfl (cl_get (by omega))))
      · exact ⟨trivial, fun ph_ _ vs w hW _ => Det.ob hW (d_neq rfl rfl)⟩
    · intro a w vs hW _ hF
      have hM : Mem w0 w [(b1, cl .u16 256 F, 26), (b2, cl .u16 256 G, 27)] := hW
      have hF := hF.sub (L' := [(2, (Value.pointer (some ⟨b1, 0, none⟩))), (3, (Value.pointer (some ⟨b2, 0, none⟩))), (5, (Value.int .i64 (i : Int))), (7, (Value.bool (decide ((i : Int) < 256)))), (16, (Value.bool (!decide (F i = G i))))]) ⟨rfl, rfl, rfl, rfl, rfl, trivial⟩
      refine then_n ?_
      refine wp_if hF rfl (fun h => ?_) (fun h => ?_)
      · have hc := ndec_true h
        clear h
        have hno : sIs F G = false := sIs_no (i := i) (by omega) hc
        refine wp_seq ?_
        refine wp_region_lit ?_
        refine wl (d_assign rfl) rfl hF (fun a hF => ?_)
        refine wl_nil ?_
        have hF := hF.sub (L' := [(2, (Value.pointer (some ⟨b1, 0, none⟩))), (3, (Value.pointer (some ⟨b2, 0, none⟩))), (4, (Value.bool false)), (5, (Value.int .i64 (i : Int))), (7, (Value.bool (decide ((i : Int) < 256)))), (16, (Value.bool (!decide (F i = G i))))]) ⟨rfl, rfl, rfl, rfl, rfl, rfl, trivial⟩
        refine then_n ?_
        refine wp_ret ?_
        refine block_ret ?_
        refine then_ret ?_
        refine then_ret ?_
        refine block_ret ?_
        refine then_ret ?_
        refine body_ret hF (results1 Try.results13 (RV.tmp hF rfl)) ?_
        exact ⟨by rw [hno], hM.below⟩
      · have hc := ndec_false h
        clear h
        refine wp_skip ?_
        refine block_n ?_
        refine then_n ?_
        refine wp_region_lit ?_
        refine wl (d_move rfl) rfl hF (fun a hF => ?_)
        refine wl (d_add rfl rfl (wrap_i64 (by omega) (by omega))) rfl hF (fun a hF => ?_)
        refine wl (d_assign rfl) rfl hF (fun a hF => ?_)
        refine wl_nil ?_
        have hF := hF.sub (L' := [(2, (Value.pointer (some ⟨b1, 0, none⟩))), (3, (Value.pointer (some ⟨b2, 0, none⟩))), (5, (Value.int .i64 ((i : Int) + 1))), (7, (Value.bool (decide ((i : Int) < 256)))), (16, (Value.bool (!decide (F i = G i))))]) ⟨rfl, rfl, rfl, rfl, rfl, trivial⟩
        refine then_n ?_
        refine ⟨_, ?_, i + 1, rfl, (by omega), (fun j hj => if h : j < i then hl1_1 j h else (show i = j by omega) ▸ hc), hF.sub ⟨rfl, rfl, rfl, trivial⟩, ?_⟩
        · omega
        exact hM
  · have hlt := of_decide_eq_false h
    clear h
    have hi : i = 256 := by omega
    have hall : sIs F G = true := sIs_of fun j hj => hl1_1 j (by omega)
    refine wp_exit ?_
    refine then_exit ?_
    refine then_exit ?_
    refine block_exit ?_
    refine then_n ?_
    refine wp_seq ?_
    refine wp_region_lit ?_
    refine wl (d_assign rfl) rfl hF (fun a hF => ?_)
    refine wl_nil ?_
    have hF := hF.sub (L' := [(2, (Value.pointer (some ⟨b1, 0, none⟩))), (3, (Value.pointer (some ⟨b2, 0, none⟩))), (4, (Value.bool true)), (5, (Value.int .i64 (i : Int))), (7, (Value.bool (decide ((i : Int) < 256))))]) ⟨rfl, rfl, rfl, rfl, rfl, trivial⟩
    refine then_n ?_
    refine wp_ret ?_
    refine body_ret hF (results1 Try.results13 (RV.tmp hF rfl)) ?_
    exact ⟨by rw [hall], hM.below⟩

set_option maxRecDepth 100000 in
theorem f2_calls (F : Nat → Int) (w0 : World) : Calls Try.prog 18 (List.toArray [.agg (cl .u16 256 F)]) w0 (Ret fun v w' => v = .agg (cl .u16 256 F) ∧ Gr w0 w') := by
  refine calls_of Try.func18 rfl Try.ntmps18 rfl fun a hF => ?_
  have hM := Mem.start w0
  have hF := hF.sub (L' := [(0, (Value.agg (cl .u16 256 F)))]) ⟨rfl, trivial⟩
  refine wp_seq ?_
  refine wp_region_lit ?_
  refine wlR (ok_box rfl) rfl hF ?_
  rintro _ w a ⟨b1, rfl, hnb_⟩ hF
  have hM : Mem w0 w [(b1, cl .u16 256 F, 26)] := hM.alloc hnb_
  refine wlR (ok_alloc z27) rfl hF ?_
  rintro _ w a ⟨b2, rfl, hnb_⟩ hF
  have hM : Mem w0 w [(b1, cl .u16 256 F, 26), (b2, cl .u16 256 fun _ => 0, 27)] := hM.alloc hnb_
  refine wl_nil ?_
  have hF := hF.sub (L' := [(0, (Value.agg (cl .u16 256 F))), (1, (Value.pointer (some ⟨b1, 0, none⟩))), (2, (Value.pointer (some ⟨b2, 0, none⟩)))]) ⟨rfl, rfl, rfl, trivial⟩
  refine then_n ?_
  refine wp_seq ?_
  refine wp_region_lit ?_
  refine wlR (ok_alloc z27) rfl hF ?_
  rintro _ w a ⟨b3, rfl, hnb_⟩ hF
  have hM : Mem w0 w [(b1, cl .u16 256 F, 26), (b2, cl .u16 256 fun _ => 0, 27), (b3, cl .u16 256 fun _ => 0, 27)] := hM.alloc hnb_
  refine wl_nil ?_
  have hF := hF.sub (L' := [(0, (Value.agg (cl .u16 256 F))), (1, (Value.pointer (some ⟨b1, 0, none⟩))), (2, (Value.pointer (some ⟨b2, 0, none⟩))), (3, (Value.pointer (some ⟨b3, 0, none⟩)))]) ⟨rfl, rfl, rfl, rfl, trivial⟩
  refine then_n ?_
  refine wp_seq ?_
  refine wp_seq ?_
  refine wp_region_lit ?_
  refine wl (d_assign rfl) rfl hF (fun a hF => ?_)
  refine wl_nil ?_
  have hF := hF.sub (L' := [(0, (Value.agg (cl .u16 256 F))), (1, (Value.pointer (some ⟨b1, 0, none⟩))), (2, (Value.pointer (some ⟨b2, 0, none⟩))), (3, (Value.pointer (some ⟨b3, 0, none⟩))), (4, (Value.int .i64 0))]) ⟨rfl, rfl, rfl, rfl, rfl, trivial⟩
  refine then_n ?_
  refine wp_block ?_
  refine wp_loop_k (fun fu_ a w => ∃ i : Nat, fu_ = 256 - i ∧ (i ≤ 256) ∧ Frm a 15 [(1, (Value.pointer (some ⟨b1, 0, none⟩))), (2, (Value.pointer (some ⟨b2, 0, none⟩))), (3, (Value.pointer (some ⟨b3, 0, none⟩))), (4, (Value.int .i64 (i : Int)))] ∧ Mem w0 w [(b1, cl .u16 256 F, 26), (b2, cl .u16 256 fun _ => 0, 27), (b3, cl .u16 256 (to i F (fun _ => 0)), 27)]) _ ⟨0, rfl, (by omega), hF.sub ⟨rfl, rfl, rfl, rfl, trivial⟩, ?_⟩ ?_
  · rw [to_zero]; exact hM
  rintro _ a w ⟨i, rfl, hl1_0, hF, hM⟩
  refine wp_seq ?_
  refine wp_seq ?_
  refine wp_region_lit ?_
  refine wl (d_move rfl) rfl hF (fun a hF => ?_)
  refine wl (d_lss rfl rfl) rfl hF (fun a hF => ?_)
  refine wl_nil ?_
  have hF := hF.sub (L' := [(1, (Value.pointer (some ⟨b1, 0, none⟩))), (2, (Value.pointer (some ⟨b2, 0, none⟩))), (3, (Value.pointer (some ⟨b3, 0, none⟩))), (4, (Value.int .i64 (i : Int))), (6, (Value.bool (decide ((i : Int) < 256))))]) ⟨rfl, rfl, rfl, rfl, rfl, trivial⟩
  refine then_n ?_
  refine wp_if hF rfl (fun h => ?_) (fun h => ?_)
  · have hlt := of_decide_eq_true h
    clear h
    refine wp_skip ?_
    refine then_n ?_
    refine wp_seq ?_
    refine wp_block ?_
    refine wp_region_lit ?_
    refine wl (d_move rfl) rfl hF (fun a hF => ?_)
    refine wl (d_move rfl) rfl hF (fun a hF => ?_)
    refine wl (d_ixA0 (j := i) Try.underlying26 sz24 rfl rfl rfl (by omega)) rfl hF (fun a hF => ?_)
    refine wl (d_load1 Try.underlying24 rfl rfl (hM.cell 0 rfl (cl_get (by omega)))) rfl hF (fun a hF => ?_)
    refine wl (d_ixA0 (j := i) Try.underlying27 sz24 rfl rfl rfl (by omega)) rfl hF (fun a hF => ?_)
    refine wl0R (ok_store1 (v := (Value.int .u16 (F i))) sz24 rfl rfl rfl (hM.at 2 rfl) (by rw [cl_size]; omega)) hF ?_
    rintro w a hu hF
    rw [cl_set] at hu
    have hM : Mem w0 w [(b1, cl .u16 256 F, 26), (b2, cl .u16 256 fun _ => 0, 27), (b3, cl .u16 256 (upd (to i F (fun _ => 0)) i (F i)), 27)] := hM.upd 2 rfl hu
    refine wl_nil ?_
    have hF := hF.sub (L' := [(1, (Value.pointer (some ⟨b1, 0, none⟩))), (2, (Value.pointer (some ⟨b2, 0, none⟩))), (3, (Value.pointer (some ⟨b3, 0, none⟩))), (4, (Value.int .i64 (i : Int))), (6, (Value.bool (decide ((i : Int) < 256))))]) ⟨rfl, rfl, rfl, rfl, rfl, trivial⟩
    refine block_n ?_
    refine then_n ?_
    refine wp_region_lit ?_
    refine wl (d_move rfl) rfl hF (fun a hF => ?_)
    refine wl (d_add rfl rfl (wrap_i64 (by omega) (by omega))) rfl hF (fun a hF => ?_)
    refine wl (d_assign rfl) rfl hF (fun a hF => ?_)
    refine wl_nil ?_
    have hF := hF.sub (L' := [(1, (Value.pointer (some ⟨b1, 0, none⟩))), (2, (Value.pointer (some ⟨b2, 0, none⟩))), (3, (Value.pointer (some ⟨b3, 0, none⟩))), (4, (Value.int .i64 ((i : Int) + 1))), (6, (Value.bool (decide ((i : Int) < 256))))]) ⟨rfl, rfl, rfl, rfl, rfl, trivial⟩
    refine then_n ?_
    refine ⟨_, ?_, i + 1, rfl, (by omega), hF.sub ⟨rfl, rfl, rfl, rfl, trivial⟩, ?_⟩
    · omega
    rw [to_step rfl] at hM
    exact hM
  · have hlt := of_decide_eq_false h
    clear h
    have hi : i = 256 := by omega
    rw [hi, to_all] at hM
    refine wp_exit ?_
    refine then_exit ?_
    refine then_exit ?_
    refine block_exit ?_
    refine then_n ?_
    refine wp_seq ?_
    refine wp_region_lit ?_
    refine wl (d_loadA Try.underlying27 rfl sz27 rfl (hM.at 2 rfl) (cl_size _ _ _)) rfl hF (fun a hF => ?_)
    refine wl0R (ok_storeA (c' := cl .u16 256 F) sz27 rfl rfl (cl_size _ _ _) (cl_one _ _ _) (hM.at 1 rfl) (cl_size _ _ _)) hF ?_
    rintro w a hu hF
    have hM : Mem w0 w [(b1, cl .u16 256 F, 26), (b2, cl .u16 256 F, 27), (b3, cl .u16 256 F, 27)] := hM.upd 1 rfl hu
    refine wl_nil ?_
    have hF := hF.sub (L' := [(1, (Value.pointer (some ⟨b1, 0, none⟩))), (2, (Value.pointer (some ⟨b2, 0, none⟩))), (3, (Value.pointer (some ⟨b3, 0, none⟩))), (4, (Value.int .i64 (i : Int))), (6, (Value.bool (decide ((i : Int) < 256))))]) ⟨rfl, rfl, rfl, rfl, rfl, trivial⟩
    refine then_n ?_
    refine wp_ret ?_
    refine body_ret hF (results1 Try.results18 (RV.cellA Try.underlying27 rfl sz27 hF rfl (hM.at 1 rfl) (cl_size _ _ _))) ?_
    exact ⟨rfl, hM.below⟩

set_option maxRecDepth 100000 in
theorem Round_calls {k n : Int} (hk : -9223372036854775808 ≤ k ∧ k ≤ 9223372036854775807) (hn : 0 < n ∧ n ≤ 9223372036854775807) (w0 : World) : Calls Try.prog 19 (List.toArray [.int .i64 k, .int .i64 n]) w0 (Ret fun v w' => v = .int .i64 (k % n) ∧ Gr w0 w') := by
  refine calls_of Try.func19 rfl Try.ntmps19 rfl fun a hF => ?_
  have hM := Mem.start w0
  have hF := hF.sub (L' := [(0, (Value.int .i64 k)), (1, (Value.int .i64 n))]) ⟨rfl, rfl, trivial⟩
  refine wp_seq ?_
  refine wp_region_lit ?_
  refine wl (d_assign rfl) rfl hF (fun a hF => ?_)
  refine wl_nil ?_
  have hF := hF.sub (L' := [(0, (Value.int .i64 k)), (1, (Value.int .i64 n)), (4, (Value.int .i64 0))]) ⟨rfl, rfl, rfl, trivial⟩
  refine then_n ?_
  refine wp_seq ?_
  have hb := tmod_b (k := k) hn.1
  refine wp_region_lit ?_
  refine wl (d_move rfl) rfl hF (fun a hF => ?_)
  refine wl (d_move rfl) rfl hF (fun a hF => ?_)
  refine wl (d_rem rfl rfl (by omega) rfl) rfl hF (fun a hF => ?_)
  refine wl (d_assign rfl) rfl hF (fun a hF => ?_)
  refine wl_nil ?_
  have hF := hF.sub (L' := [(0, (Value.int .i64 (k.tmod n))), (1, (Value.int .i64 n)), (4, (Value.int .i64 0))]) ⟨rfl, rfl, rfl, trivial⟩
  refine then_n ?_
  refine wp_seq ?_
  refine wp_seq ?_
  refine wp_region_lit ?_
  refine wl (d_move rfl) rfl hF (fun a hF => ?_)
  refine wl (d_lss rfl rfl) rfl hF (fun a hF => ?_)
  refine wl_nil ?_
  have hF := hF.sub (L' := [(0, (Value.int .i64 (k.tmod n))), (1, (Value.int .i64 n)), (4, (Value.int .i64 0)), (9, (Value.bool (decide ((k.tmod n) < 0))))]) ⟨rfl, rfl, rfl, rfl, trivial⟩
  refine then_n ?_
  refine wp_if hF rfl (fun h => ?_) (fun h => ?_)
  · have hc := of_decide_eq_true h
    clear h
    refine wp_region_lit ?_
    refine wl (d_move rfl) rfl hF (fun a hF => ?_)
    refine wl (d_move rfl) rfl hF (fun a hF => ?_)
    refine wl (d_add rfl rfl (wrap_i64 (by omega) (by omega))) rfl hF (fun a hF => ?_)
    refine wl (d_assign rfl) rfl hF (fun a hF => ?_)
    refine wl_nil ?_
    have hF := hF.sub (L' := [(0, (Value.int .i64 ((k.tmod n) + n))), (1, (Value.int .i64 n)), (4, (Value.int .i64 0)), (9, (Value.bool (decide ((k.tmod n) < 0))))]) ⟨rfl, rfl, rfl, rfl, trivial⟩
    refine then_n ?_
    refine wp_seq ?_
    refine wp_region_lit ?_
    refine wl (d_move rfl) rfl hF (fun a hF => ?_)
    refine wl (d_assign rfl) rfl hF (fun a hF => ?_)
    refine wl_nil ?_
    have hF := hF.sub (L' := [(0, (Value.int .i64 ((k.tmod n) + n))), (1, (Value.int .i64 n)), (4, (Value.int .i64 ((k.tmod n) + n))), (9, (Value.bool (decide ((k.tmod n) < 0))))]) ⟨rfl, rfl, rfl, rfl, trivial⟩
    refine then_n ?_
    refine wp_ret ?_
    refine body_ret hF (results1 Try.results19 (RV.tmp hF rfl)) ?_
    exact ⟨by rw [round_neg hn.1 hc], hM.below⟩
  · have hc := of_decide_eq_false h
    clear h
    refine wp_skip ?_
    refine then_n ?_
    refine wp_seq ?_
    refine wp_region_lit ?_
    refine wl (d_move rfl) rfl hF (fun a hF => ?_)
    refine wl (d_assign rfl) rfl hF (fun a hF => ?_)
    refine wl_nil ?_
    have hF := hF.sub (L' := [(0, (Value.int .i64 (k.tmod n))), (1, (Value.int .i64 n)), (4, (Value.int .i64 (k.tmod n))), (9, (Value.bool (decide ((k.tmod n) < 0))))]) ⟨rfl, rfl, rfl, rfl, trivial⟩
    refine then_n ?_
    refine wp_ret ?_
    refine body_ret hF (results1 Try.results19 (RV.tmp hF rfl)) ?_
    exact ⟨by rw [round_pos hn.1 hc], hM.below⟩

set_option maxRecDepth 100000 in
theorem zeta_calls {n : Nat} (hn : n < 1000) (w0 : World) : Calls Try.prog 37 (List.toArray [.int .i64 (n : Int)]) w0 (Ret fun v w' => v = .int .i64 (pw n) ∧ Gr w0 w') := by
  refine calls_of Try.func37 rfl Try.ntmps37 rfl fun a hF => ?_
  have hM := Mem.start w0
  have hF := hF.sub (L' := [(0, (Value.int .i64 (n : Int)))]) ⟨rfl, trivial⟩
  refine wp_seq ?_
  refine wp_region_lit ?_
  refine wl (d_assign rfl) rfl hF (fun a hF => ?_)
  refine wl_nil ?_
  have hF := hF.sub (L' := [(0, (Value.int .i64 (n : Int))), (2, (Value.int .i64 0))]) ⟨rfl, rfl, trivial⟩
  refine then_n ?_
  refine wp_seq ?_
  refine wp_region_lit ?_
  refine wl (d_assign rfl) rfl hF (fun a hF => ?_)
  refine wl_nil ?_
  have hF := hF.sub (L' := [(0, (Value.int .i64 (n : Int))), (2, (Value.int .i64 0)), (3, (Value.int .i64 1))]) ⟨rfl, rfl, rfl, trivial⟩
  refine then_n ?_
  refine wp_seq ?_
  refine wp_seq ?_
  refine wp_region_lit ?_
  refine wl (d_assign rfl) rfl hF (fun a hF => ?_)
  refine wl_nil ?_
  have hF := hF.sub (L' := [(0, (Value.int .i64 (n : Int))), (2, (Value.int .i64 0)), (3, (Value.int .i64 1)), (4, (Value.int .i64 0))]) ⟨rfl, rfl, rfl, rfl, trivial⟩
  refine then_n ?_
  refine wp_block ?_
  refine wp_loop_k (fun fu_ a w => ∃ i : Nat, fu_ = n - i ∧ (i ≤ n) ∧ Frm a 14 [(0, (Value.int .i64 (n : Int))), (3, (Value.int .i64 (pw i))), (4, (Value.int .i64 (i : Int)))] ∧ Mem w0 w []) _ ⟨0, rfl, (by omega), hF.sub ⟨rfl, rfl, rfl, trivial⟩, ?_⟩ ?_
  · exact hM
  rintro _ a w ⟨i, rfl, hl1_0, hF, hM⟩
  have hp := pw_b i
  refine wp_seq ?_
  refine wp_seq ?_
  refine wp_region_lit ?_
  refine wl (d_move rfl) rfl hF (fun a hF => ?_)
  refine wl (d_move rfl) rfl hF (fun a hF => ?_)
  refine wl (d_lss rfl rfl) rfl hF (fun a hF => ?_)
  refine wl_nil ?_
  have hF := hF.sub (L' := [(0, (Value.int .i64 (n : Int))), (3, (Value.int .i64 (pw i))), (4, (Value.int .i64 (i : Int))), (7, (Value.bool (decide ((i : Int) < (n : Int)))))]) ⟨rfl, rfl, rfl, rfl, trivial⟩
  refine then_n ?_
  refine wp_if hF rfl (fun h => ?_) (fun h => ?_)
  · have hlt := of_decide_eq_true h
    clear h
    refine wp_skip ?_
    refine then_n ?_
    refine wp_seq ?_
    refine wp_block ?_
    refine wp_region_lit ?_
    refine wl (d_move rfl) rfl hF (fun a hF => ?_)
    refine wl (d_mul rfl rfl (wrap_i64 (by omega) (by omega))) rfl hF (fun a hF => ?_)
    refine wl (d_rem rfl rfl (by omega) (tmod_pos (by omega))) rfl hF (fun a hF => ?_)
    refine wl (d_assign rfl) rfl hF (fun a hF => ?_)
    refine wl_nil ?_
    have hF := hF.sub (L' := [(0, (Value.int .i64 (n : Int))), (3, (Value.int .i64 ((pw i * 17) % 3329))), (4, (Value.int .i64 (i : Int))), (7, (Value.bool (decide ((i : Int) < (n : Int)))))]) ⟨rfl, rfl, rfl, rfl, trivial⟩
    refine block_n ?_
    refine then_n ?_
    refine wp_region_lit ?_
    refine wl (d_move rfl) rfl hF (fun a hF => ?_)
    refine wl (d_add rfl rfl (wrap_i64 (by omega) (by omega))) rfl hF (fun a hF => ?_)
    refine wl (d_assign rfl) rfl hF (fun a hF => ?_)
    refine wl_nil ?_
    have hF := hF.sub (L' := [(0, (Value.int .i64 (n : Int))), (3, (Value.int .i64 ((pw i * 17) % 3329))), (4, (Value.int .i64 ((i : Int) + 1))), (7, (Value.bool (decide ((i : Int) < (n : Int)))))]) ⟨rfl, rfl, rfl, rfl, trivial⟩
    refine then_n ?_
    refine ⟨_, ?_, i + 1, rfl, (by omega), hF.sub ⟨rfl, rfl, rfl, trivial⟩, ?_⟩
    · omega
    exact hM
  · have hlt := of_decide_eq_false h
    clear h
    have hi : i = n := by omega
    refine wp_exit ?_
    refine then_exit ?_
    refine then_exit ?_
    refine block_exit ?_
    refine then_n ?_
    refine wp_seq ?_
    refine wp_region_lit ?_
    refine wl (d_move rfl) rfl hF (fun a hF => ?_)
    refine wl (d_assign rfl) rfl hF (fun a hF => ?_)
    refine wl_nil ?_
    have hF := hF.sub (L' := [(0, (Value.int .i64 (n : Int))), (2, (Value.int .i64 (pw i))), (3, (Value.int .i64 (pw i))), (4, (Value.int .i64 (i : Int))), (7, (Value.bool (decide ((i : Int) < (n : Int)))))]) ⟨rfl, rfl, rfl, rfl, rfl, trivial⟩
    refine then_n ?_
    refine wp_ret ?_
    refine body_ret hF (results1 Try.results37 (RV.tmp hF rfl)) ?_
    exact ⟨by rw [hi], hM.below⟩

set_option maxRecDepth 100000 in
theorem rev_calls {i : Nat} (hi : i < 128) (w0 : World) : Calls Try.prog 38 (List.toArray [.int .i64 (i : Int)]) w0 (Ret fun v w' => v = .int .i64 ((rb 7 i : Nat) : Int) ∧ Gr w0 w') := by
  refine calls_of Try.func38 rfl Try.ntmps38 rfl fun a hF => ?_
  have hM := Mem.start w0
  have hF := hF.sub (L' := [(0, (Value.int .i64 (i : Int)))]) ⟨rfl, trivial⟩
  refine wp_seq ?_
  refine wp_region_lit ?_
  refine wl (d_assign rfl) rfl hF (fun a hF => ?_)
  refine wl_nil ?_
  have hF := hF.sub (L' := [(0, (Value.int .i64 (i : Int))), (2, (Value.int .i64 0))]) ⟨rfl, rfl, trivial⟩
  refine then_n ?_
  refine wp_seq ?_
  refine wp_region_lit ?_
  refine wl (d_assign rfl) rfl hF (fun a hF => ?_)
  refine wl_nil ?_
  have hF := hF.sub (L' := [(0, (Value.int .i64 (i : Int))), (2, (Value.int .i64 0)), (3, (Value.int .i64 0))]) ⟨rfl, rfl, rfl, trivial⟩
  refine then_n ?_
  refine wp_seq ?_
  refine wp_seq ?_
  refine wp_region_lit ?_
  refine wl (d_assign rfl) rfl hF (fun a hF => ?_)
  refine wl_nil ?_
  have hF := hF.sub (L' := [(0, (Value.int .i64 (i : Int))), (2, (Value.int .i64 0)), (3, (Value.int .i64 0)), (4, (Value.int .i64 0))]) ⟨rfl, rfl, rfl, rfl, trivial⟩
  refine then_n ?_
  refine wp_block ?_
  refine wp_loop_k (fun fu_ a w => ∃ t : Nat, fu_ = 7 - t ∧ (t ≤ 7) ∧ Frm a 17 [(0, (Value.int .i64 (i : Int))), (3, (Value.int .i64 ((rb t i : Nat) : Int))), (4, (Value.int .i64 (t : Int)))] ∧ Mem w0 w []) _ ⟨0, rfl, (by omega), hF.sub ⟨rfl, rfl, rfl, trivial⟩, ?_⟩ ?_
  · exact hM
  rintro _ a w ⟨t, rfl, hl1_0, hF, hM⟩
  have hr := rb_lt t i
  have hr2 : 2 ^ t ≤ 128 := Nat.pow_le_pow_right (n := 2) (by omega) (show t ≤ 7 by omega)
  have hd : i / 2 ^ t ≤ i := Nat.div_le_self _ _
  have hd0 : (0 : Int) ≤ ((i / 2 ^ t : Nat) : Int) := Int.natCast_nonneg _
  refine wp_seq ?_
  refine wp_seq ?_
  refine wp_region_lit ?_
  refine wl (d_move rfl) rfl hF (fun a hF => ?_)
  refine wl (d_lss rfl rfl) rfl hF (fun a hF => ?_)
  refine wl_nil ?_
  have hF := hF.sub (L' := [(0, (Value.int .i64 (i : Int))), (3, (Value.int .i64 ((rb t i : Nat) : Int))), (4, (Value.int .i64 (t : Int))), (6, (Value.bool (decide ((t : Int) < 7))))]) ⟨rfl, rfl, rfl, rfl, trivial⟩
  refine then_n ?_
  refine wp_if hF rfl (fun h => ?_) (fun h => ?_)
  · have hlt := of_decide_eq_true h
    clear h
    refine wp_skip ?_
    refine then_n ?_
    refine wp_seq ?_
    refine wp_block ?_
    refine wp_region_lit ?_
    refine wl (d_move rfl) rfl hF (fun a hF => ?_)
    refine wl (d_shl rfl rfl (by omega) (shl1_i64 (by omega) (by omega))) rfl hF (fun a hF => ?_)
    refine wl (d_move rfl) rfl hF (fun a hF => ?_)
    refine wl (d_move rfl) rfl hF (fun a hF => ?_)
    refine wl (d_shr rfl rfl (by omega) (shr_nat_i64 (by omega))) rfl hF (fun a hF => ?_)
    refine wl (d_and rfl rfl (and1_i64 (by omega) (by omega))) rfl hF (fun a hF => ?_)
    refine wl (d_or rfl rfl (or1_i64 (by omega) (by omega) (by omega) (by omega) (by omega))) rfl hF (fun a hF => ?_)
    refine wl (d_assign rfl) rfl hF (fun a hF => ?_)
    refine wl_nil ?_
    have hF := hF.sub (L' := [(0, (Value.int .i64 (i : Int))), (3, (Value.int .i64 (((rb t i : Nat) : Int) * 2 + ((i / 2 ^ t : Nat) : Int) % 2))), (4, (Value.int .i64 (t : Int))), (6, (Value.bool (decide ((t : Int) < 7))))]) ⟨rfl, rfl, rfl, rfl, trivial⟩
    refine block_n ?_
    refine then_n ?_
    refine wp_region_lit ?_
    refine wl (d_move rfl) rfl hF (fun a hF => ?_)
    refine wl (d_add rfl rfl (wrap_i64 (by omega) (by omega))) rfl hF (fun a hF => ?_)
    refine wl (d_assign rfl) rfl hF (fun a hF => ?_)
    refine wl_nil ?_
    have hF := hF.sub (L' := [(0, (Value.int .i64 (i : Int))), (3, (Value.int .i64 (((rb t i : Nat) : Int) * 2 + ((i / 2 ^ t : Nat) : Int) % 2))), (4, (Value.int .i64 ((t : Int) + 1))), (6, (Value.bool (decide ((t : Int) < 7))))]) ⟨rfl, rfl, rfl, rfl, trivial⟩
    refine then_n ?_
    rw [show ((rb t i : Nat) : Int) * 2 + ((i / 2 ^ t : Nat) : Int) % 2 = ((rb (t + 1) i : Nat) : Int) from by simp only [rb]; omega] at hF
    refine ⟨_, ?_, t + 1, rfl, (by omega), hF.sub ⟨rfl, rfl, rfl, trivial⟩, ?_⟩
    · omega
    exact hM
  · have hlt := of_decide_eq_false h
    clear h
    have ht : t = 7 := by omega
    refine wp_exit ?_
    refine then_exit ?_
    refine then_exit ?_
    refine block_exit ?_
    refine then_n ?_
    refine wp_seq ?_
    refine wp_region_lit ?_
    refine wl (d_move rfl) rfl hF (fun a hF => ?_)
    refine wl (d_assign rfl) rfl hF (fun a hF => ?_)
    refine wl_nil ?_
    have hF := hF.sub (L' := [(0, (Value.int .i64 (i : Int))), (2, (Value.int .i64 ((rb t i : Nat) : Int))), (3, (Value.int .i64 ((rb t i : Nat) : Int))), (4, (Value.int .i64 (t : Int))), (6, (Value.bool (decide ((t : Int) < 7))))]) ⟨rfl, rfl, rfl, rfl, rfl, trivial⟩
    refine then_n ?_
    refine wp_ret ?_
    refine body_ret hF (results1 Try.results38 (RV.tmp hF rfl)) ?_
    exact ⟨by rw [ht], hM.below⟩

set_option maxRecDepth 100000 in
theorem poly_calls {bl ol n cp : Nat} {X : Nat → Int} (hn : 0 < n) (hn2 : n ≤ 256) {w0 : World} (hX : ∀ j, j < n → w0.cell? ⟨bl, ol + j, none⟩ = some (.int .u16 (X j))) (hx : ∀ j, j < n → 0 ≤ X j ∧ X j < 65536) : Calls Try.prog 10 (List.toArray [.slice (some ⟨bl, ol, none⟩) n cp]) w0 (Ret fun v w' => v = .tuple #[.agg (cl .u16 256 (pl n X)), .agg (cl .u16 256 (pl n X))] ∧ Gr w0 w') := by
  refine calls_of Try.func10 rfl Try.ntmps10 rfl fun a hF => ?_
  have hM := Mem.start w0
  have hF := hF.sub (L' := [(0, (Value.slice (some ⟨bl, ol, none⟩) n cp))]) ⟨rfl, trivial⟩
  refine wp_seq ?_
  refine wp_region_lit ?_
  refine wlR (ok_alloc z26) rfl hF ?_
  rintro _ w a ⟨b1, rfl, hnb_⟩ hF
  have hM : Mem w0 w [(b1, cl .u16 256 fun _ => 0, 26)] := hM.alloc hnb_
  refine wlR (ok_alloc z27) rfl hF ?_
  rintro _ w a ⟨b2, rfl, hnb_⟩ hF
  have hM : Mem w0 w [(b1, cl .u16 256 fun _ => 0, 26), (b2, cl .u16 256 fun _ => 0, 27)] := hM.alloc hnb_
  refine wl_nil ?_
  have hF := hF.sub (L' := [(0, (Value.slice (some ⟨bl, ol, none⟩) n cp)), (2, (Value.pointer (some ⟨b1, 0, none⟩))), (3, (Value.pointer (some ⟨b2, 0, none⟩)))]) ⟨rfl, rfl, rfl, trivial⟩
  refine then_n ?_
  refine wp_seq ?_
  refine wp_region_lit ?_
  refine wlR (ok_alloc z26) rfl hF ?_
  rintro _ w a ⟨b3, rfl, hnb_⟩ hF
  have hM : Mem w0 w [(b1, cl .u16 256 fun _ => 0, 26), (b2, cl .u16 256 fun _ => 0, 27), (b3, cl .u16 256 fun _ => 0, 26)] := hM.alloc hnb_
  refine wl_nil ?_
  have hF := hF.sub (L' := [(0, (Value.slice (some ⟨bl, ol, none⟩) n cp)), (2, (Value.pointer (some ⟨b1, 0, none⟩))), (3, (Value.pointer (some ⟨b2, 0, none⟩))), (4, (Value.pointer (some ⟨b3, 0, none⟩)))]) ⟨rfl, rfl, rfl, rfl, trivial⟩
  refine then_n ?_
  refine wp_seq ?_
  refine wp_region_lit ?_
  refine wlR (ok_alloc z27) rfl hF ?_
  rintro _ w a ⟨b4, rfl, hnb_⟩ hF
  have hM : Mem w0 w [(b1, cl .u16 256 fun _ => 0, 26), (b2, cl .u16 256 fun _ => 0, 27), (b3, cl .u16 256 fun _ => 0, 26), (b4, cl .u16 256 fun _ => 0, 27)] := hM.alloc hnb_
  refine wl_nil ?_
  have hF := hF.sub (L' := [(0, (Value.slice (some ⟨bl, ol, none⟩) n cp)), (2, (Value.pointer (some ⟨b1, 0, none⟩))), (3, (Value.pointer (some ⟨b2, 0, none⟩))), (4, (Value.pointer (some ⟨b3, 0, none⟩))), (5, (Value.pointer (some ⟨b4, 0, none⟩)))]) ⟨rfl, rfl, rfl, rfl, rfl, trivial⟩
  refine then_n ?_
  refine wp_seq ?_
  refine wp_seq ?_
  refine wp_region_lit ?_
  refine wl (d_assign rfl) rfl hF (fun a hF => ?_)
  refine wl_nil ?_
  have hF := hF.sub (L' := [(0, (Value.slice (some ⟨bl, ol, none⟩) n cp)), (2, (Value.pointer (some ⟨b1, 0, none⟩))), (3, (Value.pointer (some ⟨b2, 0, none⟩))), (4, (Value.pointer (some ⟨b3, 0, none⟩))), (5, (Value.pointer (some ⟨b4, 0, none⟩))), (6, (Value.int .i64 0))]) ⟨rfl, rfl, rfl, rfl, rfl, rfl, trivial⟩
  refine then_n ?_
  refine wp_block ?_
  refine wp_loop_k (fun fu_ a w => ∃ i : Nat, fu_ = 256 - i ∧ (i ≤ 256) ∧ Frm a 44 [(0, (Value.slice (some ⟨bl, ol, none⟩) n cp)), (2, (Value.pointer (some ⟨b1, 0, none⟩))), (3, (Value.pointer (some ⟨b2, 0, none⟩))), (4, (Value.pointer (some ⟨b3, 0, none⟩))), (5, (Value.pointer (some ⟨b4, 0, none⟩))), (6, (Value.int .i64 (i : Int)))] ∧ Mem w0 w [(b1, cl .u16 256 fun _ => 0, 26), (b2, cl .u16 256 fun _ => 0, 27), (b3, cl .u16 256 (to i (pl n X) (fun _ => 0)), 26), (b4, cl .u16 256 (to i (pl n X) (fun _ => 0)), 27)]) _ ⟨0, rfl, (by omega), hF.sub ⟨rfl, rfl, rfl, rfl, rfl, rfl, trivial⟩, ?_⟩ ?_
  · rw [to_zero]; exact hM
  rintro _ a w ⟨i, rfl, hl1_0, hF, hM⟩
  refine wp_seq ?_
  refine wp_seq ?_
  refine wp_region_lit ?_
  refine wl (d_move rfl) rfl hF (fun a hF => ?_)
  refine wl (d_lss rfl rfl) rfl hF (fun a hF => ?_)
  refine wl (d_move rfl) rfl hF (fun a hF => ?_)
  by_cases hlt : (i : Int) < 256
  · have hdec_ : decide ((i : Int) < 256) = true := decide_eq_true hlt
    rw [hdec_] at hF
    refine wlg rfl (d_move rfl) rfl hF (fun a hF => ?_)
    refine wlg rfl (d_len_slice Try.underlying22 rfl) rfl hF (fun a hF => ?_)
    refine wlg rfl (d_bool (c := true) (d_gtr rfl rfl) (decide_eq_true (by omega))) rfl hF (fun a hF => ?_)
    refine wl (d_pick (b := true) rfl rfl) rfl hF (fun a hF => ?_)
    refine wl_nil ?_
    have hF := hF.sub (L' := [(0, (Value.slice (some ⟨bl, ol, none⟩) n cp)), (2, (Value.pointer (some ⟨b1, 0, none⟩))), (3, (Value.pointer (some ⟨b2, 0, none⟩))), (4, (Value.pointer (some ⟨b3, 0, none⟩))), (5, (Value.pointer (some ⟨b4, 0, none⟩))), (6, (Value.int .i64 (i : Int))), (14, (Value.bool true))]) ⟨rfl, rfl, rfl, rfl, rfl, rfl, rfl, trivial⟩
    refine then_n ?_
    refine wp_cond_true (hF.eval rfl) ?_
    refine wp_skip ?_
    refine then_n ?_
    refine wp_seq ?_
    refine wp_block ?_
    refine wp_seq ?_
    have hmod := Nat.mod_lt i hn
    have hxb := hx _ hmod
    have hsq : 0 ≤ (i : Int) * (i : Int) ∧ (i : Int) * (i : Int) ≤ 65025 := ⟨Int.mul_nonneg (by omega) (by omega), Int.mul_le_mul (show (i : Int) ≤ 255 by omega) (show (i : Int) ≤ 255 by omega) (by omega) (by omega)⟩
    refine wp_region_lit ?_
    refine wl (d_move rfl) rfl hF (fun a hF => ?_)
    refine wl (d_move rfl) rfl hF (fun a hF => ?_)
    refine wl (d_move rfl) rfl hF (fun a hF => ?_)
    refine wl (d_len_slice Try.underlying22 rfl) rfl hF (fun a hF => ?_)
    refine wl (d_rem rfl rfl (by omega) rfl) rfl hF (fun a hF => ?_)
    refine wl (d_ixS (j := i % n) Try.underlying22 sz24 rfl rfl rfl (by omega)) rfl hF (fun a hF => ?_)
    refine wl (d_load1 Try.underlying24 rfl rfl (hM.old (hX _ hmod))) rfl hF (fun a hF => ?_)
    refine wl (d_assign rfl) rfl hF (fun a hF => ?_)
    refine wl_nil ?_
    have hF := hF.sub (L' := [(0, (Value.slice (some ⟨bl, ol, none⟩) n cp)), (2, (Value.pointer (some ⟨b1, 0, none⟩))), (3, (Value.pointer (some ⟨b2, 0, none⟩))), (4, (Value.pointer (some ⟨b3, 0, none⟩))), (5, (Value.pointer (some ⟨b4, 0, none⟩))), (6, (Value.int .i64 (i : Int))), (7, (Value.int .u16 (X (i % n)))), (14, (Value.bool true))]) ⟨rfl, rfl, rfl, rfl, rfl, rfl, rfl, rfl, trivial⟩
    refine then_n ?_
    refine wp_seq ?_
    refine wp_seq ?_
    refine wp_region_lit ?_
    refine wl (d_move rfl) rfl hF (fun a hF => ?_)
    refine wl (d_move rfl) rfl hF (fun a hF => ?_)
    refine wl (d_len_slice Try.underlying22 rfl) rfl hF (fun a hF => ?_)
    refine wl (d_geq rfl rfl) rfl hF (fun a hF => ?_)
    refine wl_nil ?_
    have hF := hF.sub (L' := [(0, (Value.slice (some ⟨bl, ol, none⟩) n cp)), (2, (Value.pointer (some ⟨b1, 0, none⟩))), (3, (Value.pointer (some ⟨b2, 0, none⟩))), (4, (Value.pointer (some ⟨b3, 0, none⟩))), (5, (Value.pointer (some ⟨b4, 0, none⟩))), (6, (Value.int .i64 (i : Int))), (7, (Value.int .u16 (X (i % n)))), (14, (Value.bool true)), (27, (Value.bool (decide ((n : Int) ≤ (i : Int)))))]) ⟨rfl, rfl, rfl, rfl, rfl, rfl, rfl, rfl, rfl, trivial⟩
    refine then_n ?_
    refine wp_join (fun a w => Frm a 44 [(0, (Value.slice (some ⟨bl, ol, none⟩) n cp)), (2, (Value.pointer (some ⟨b1, 0, none⟩))), (3, (Value.pointer (some ⟨b2, 0, none⟩))), (4, (Value.pointer (some ⟨b3, 0, none⟩))), (5, (Value.pointer (some ⟨b4, 0, none⟩))), (6, (Value.int .i64 (i : Int))), (7, (Value.int .u16 (pl n X i))), (14, (Value.bool true))] ∧ Mem w0 w [(b1, cl .u16 256 fun _ => 0, 26), (b2, cl .u16 256 fun _ => 0, 27), (b3, cl .u16 256 (to i (pl n X) (fun _ => 0)), 26), (b4, cl .u16 256 (to i (pl n X) (fun _ => 0)), 27)]) ?_ ?_
    rotate_left
    · rintro a w ⟨hF, hM⟩
      refine wp_seq ?_
      refine wp_region_lit ?_
      refine wl (d_move rfl) rfl hF (fun a hF => ?_)
      refine wl (d_move rfl) rfl hF (fun a hF => ?_)
      refine wl (d_ixA0 (j := i) Try.underlying26 sz24 rfl rfl rfl (by omega)) rfl hF (fun a hF => ?_)
      refine wl0R (ok_store1 (v := (Value.int .u16 (pl n X i))) sz24 rfl rfl rfl (hM.at 2 rfl) (by rw [cl_size]; omega)) hF ?_
      rintro w a hu hF
      rw [cl_set] at hu
      have hM : Mem w0 w [(b1, cl .u16 256 fun _ => 0, 26), (b2, cl .u16 256 fun _ => 0, 27), (b3, cl .u16 256 (upd (to i (pl n X) (fun _ => 0)) i (pl n X i)), 26), (b4, cl .u16 256 (to i (pl n X) (fun _ => 0)), 27)] := hM.upd 2 rfl hu
      refine wl_nil ?_
      have hF := hF.sub (L' := [(0, (Value.slice (some ⟨bl, ol, none⟩) n cp)), (2, (Value.pointer (some ⟨b1, 0, none⟩))), (3, (Value.pointer (some ⟨b2, 0, none⟩))), (4, (Value.pointer (some ⟨b3, 0, none⟩))), (5, (Value.pointer (some ⟨b4, 0, none⟩))), (6, (Value.int .i64 (i : Int))), (7, (Value.int .u16 (pl n X i))), (14, (Value.bool true))]) ⟨rfl, rfl, rfl, rfl, rfl, rfl, rfl, rfl, trivial⟩
      refine then_n ?_
      refine wp_region_lit ?_
      refine wl (d_move rfl) rfl hF (fun a hF => ?_)
      refine wl (d_move rfl) rfl hF (fun a hF => ?_)
      refine wl (d_ixA0 (j := i) Try.underlying27 sz24 rfl rfl rfl (by omega)) rfl hF (fun a hF => ?_)
      refine wl0R (ok_store1 (v := (Value.int .u16 (pl n X i))) sz24 rfl rfl rfl (hM.at 3 rfl) (by rw [cl_size]; omega)) hF ?_
      rintro w a hu hF
      rw [cl_set] at hu
      have hM : Mem w0 w [(b1, cl .u16 256 fun _ => 0, 26), (b2, cl .u16 256 fun _ => 0, 27), (b3, cl .u16 256 (upd (to i (pl n X) (fun _ => 0)) i (pl n X i)), 26), (b4, cl .u16 256 (upd (to i (pl n X) (fun _ => 0)) i (pl n X i)), 27)] := hM.upd 3 rfl hu
      refine wl_nil ?_
      have hF := hF.sub (L' := [(0, (Value.slice (some ⟨bl, ol, none⟩) n cp)), (2, (Value.pointer (some ⟨b1, 0, none⟩))), (3, (Value.pointer (some ⟨b2, 0, none⟩))), (4, (Value.pointer (some ⟨b3, 0, none⟩))), (5, (Value.pointer (some ⟨b4, 0, none⟩))), (6, (Value.int .i64 (i : Int))), (7, (Value.int .u16 (pl n X i))), (14, (Value.bool true))]) ⟨rfl, rfl, rfl, rfl, rfl, rfl, rfl, rfl, trivial⟩
      refine block_n ?_
      refine then_n ?_
      refine wp_region_lit ?_
      refine wl (d_move rfl) rfl hF (fun a hF => ?_)
      refine wl (d_add rfl rfl (wrap_i64 (by omega) (by omega))) rfl hF (fun a hF => ?_)
      refine wl (d_assign rfl) rfl hF (fun a hF => ?_)
      refine wl_nil ?_
      have hF := hF.sub (L' := [(0, (Value.slice (some ⟨bl, ol, none⟩) n cp)), (2, (Value.pointer (some ⟨b1, 0, none⟩))), (3, (Value.pointer (some ⟨b2, 0, none⟩))), (4, (Value.pointer (some ⟨b3, 0, none⟩))), (5, (Value.pointer (some ⟨b4, 0, none⟩))), (6, (Value.int .i64 ((i : Int) + 1))), (7, (Value.int .u16 (pl n X i))), (14, (Value.bool true))]) ⟨rfl, rfl, rfl, rfl, rfl, rfl, rfl, rfl, trivial⟩
      refine then_n ?_
      refine ⟨_, ?_, i + 1, rfl, (by omega), hF.sub ⟨rfl, rfl, rfl, rfl, rfl, rfl, trivial⟩, ?_⟩
      · omega
      rw [to_step rfl] at hM
      exact hM
    refine wp_if hF rfl (fun h => ?_) (fun h => ?_)
    · have hge := of_decide_eq_true h
      clear h
      refine wp_region_lit ?_
      refine wl (d_move rfl) rfl hF (fun a hF => ?_)
      refine wl (d_conv Try.underlying24 Try.underlying3 rfl (wrap_i64 (by omega) (by omega))) rfl hF (fun a hF => ?_)
      refine wl (d_move rfl) rfl hF (fun a hF => ?_)
      refine wl (d_move rfl) rfl hF (fun a hF => ?_)
      refine wl (d_mul rfl rfl (wrap_i64 (by omega) (by omega))) rfl hF (fun a hF => ?_)
      refine wl (d_add rfl rfl (wrap_i64 (by omega) (by omega))) rfl hF (fun a hF => ?_)
      refine wl (d_rem rfl rfl (by omega) (tmod_pos (by omega))) rfl hF (fun a hF => ?_)
      refine wl (d_conv Try.underlying3 Try.underlying24 rfl (wrap_u16 (by omega) (by omega))) rfl hF (fun a hF => ?_)
      refine wl (d_assign rfl) rfl hF (fun a hF => ?_)
      refine wl_nil ?_
      have hF := hF.sub (L' := [(0, (Value.slice (some ⟨bl, ol, none⟩) n cp)), (2, (Value.pointer (some ⟨b1, 0, none⟩))), (3, (Value.pointer (some ⟨b2, 0, none⟩))), (4, (Value.pointer (some ⟨b3, 0, none⟩))), (5, (Value.pointer (some ⟨b4, 0, none⟩))), (6, (Value.int .i64 (i : Int))), (7, (Value.int .u16 ((X (i % n) + ((i : Int) * (i : Int))) % 4000))), (14, (Value.bool true)), (27, (Value.bool (decide ((n : Int) ≤ (i : Int)))))]) ⟨rfl, rfl, rfl, rfl, rfl, rfl, rfl, rfl, rfl, trivial⟩
      refine then_n ?_
      rw [show (X (i % n) + (i : Int) * (i : Int)) % 4000 = pl n X i from by simp only [pl]; rw [if_neg (by omega), if_neg (by omega)]] at hF
      refine ⟨hF.sub ⟨rfl, rfl, rfl, rfl, rfl, rfl, rfl, rfl, trivial⟩, ?_⟩
      exact hM
    · have hge := of_decide_eq_false h
      clear h
      refine wp_skip ?_
      refine then_n ?_
      rw [show X (i % n) = pl n X i from by simp only [pl]; rw [if_neg (by omega), if_pos (by omega), Nat.mod_eq_of_lt (by omega)]] at hF
      refine ⟨hF.sub ⟨rfl, rfl, rfl, rfl, rfl, rfl, rfl, rfl, trivial⟩, ?_⟩
      exact hM
  · have hdec_ : decide ((i : Int) < 256) = false := decide_eq_false hlt
    rw [hdec_] at hF
    have hi : i = 256 := by omega
    rw [hi, to_all] at hM
    refine wlgs (c := false) rfl rfl rfl hF (fun a hF => ?_)
    refine wlgs (c := false) rfl rfl rfl hF (fun a hF => ?_)
    refine wlgs (c := false) rfl rfl rfl hF (fun a hF => ?_)
    refine wl (d_pick (b := false) rfl rfl) rfl hF (fun a hF => ?_)
    refine wl_nil ?_
    have hF := hF.sub (L' := [(0, (Value.slice (some ⟨bl, ol, none⟩) n cp)), (2, (Value.pointer (some ⟨b1, 0, none⟩))), (3, (Value.pointer (some ⟨b2, 0, none⟩))), (4, (Value.pointer (some ⟨b3, 0, none⟩))), (5, (Value.pointer (some ⟨b4, 0, none⟩))), (6, (Value.int .i64 (i : Int))), (14, (Value.bool false))]) ⟨rfl, rfl, rfl, rfl, rfl, rfl, rfl, trivial⟩
    refine then_n ?_
    refine wp_cond_false (hF.eval rfl) ?_
    refine wp_exit ?_
    refine then_exit ?_
    refine then_exit ?_
    refine block_exit ?_
    refine then_n ?_
    refine wp_seq ?_
    refine region_plan Tt mo (fun ph_ w => Mem w0 w (([[(b1, cl .u16 256 fun _ => 0, 26), (b2, cl .u16 256 fun _ => 0, 27), (b3, cl .u16 256 (pl n X), 26), (b4, cl .u16 256 (pl n X), 27)], [(b1, cl .u16 256 (pl n X), 26), (b2, cl .u16 256 fun _ => 0, 27), (b3, cl .u16 256 (pl n X), 26), (b4, cl .u16 256 (pl n X), 27)], [(b1, cl .u16 256 (pl n X), 26), (b2, cl .u16 256 (pl n X), 27), (b3, cl .u16 256 (pl n X), 26), (b4, cl .u16 256 (pl n X), 27)]] : List (List Blk)).getD ph_ [])) [2, 3] (rows := [⟨[], [(4, (Value.pointer (some ⟨b3, 0, none⟩)))], [0], .val (Value.agg (cl .u16 256 (pl n X)))⟩, ⟨[], [(5, (Value.pointer (some ⟨b4, 0, none⟩)))], [0, 1], .val (Value.agg (cl .u16 256 (pl n X)))⟩, ⟨[(0, 42)], [(2, (Value.pointer (some ⟨b1, 0, none⟩)))], [0], .rel (fun _ _ => True) (fun _ _ _ _ _ => trivial)⟩, ⟨[(1, 43)], [(3, (Value.pointer (some ⟨b2, 0, none⟩)))], [1], .rel (fun _ _ => True) (fun _ _ _ _ _ => trivial)⟩]) (by kernel_rfl) hF hM.drew ?_ ?_
    · refine ⟨?_, ?_, ?_, ?_, trivial⟩
      · refine ⟨⟨rfl, trivial⟩, fun ph_ hp_ vs w hW _ => ?_⟩
        obtain rfl := memN_one hp_
        have hM : Mem w0 w [(b1, cl .u16 256 fun _ => 0, 26), (b2, cl .u16 256 fun _ => 0, 27), (b3, cl .u16 256 (pl n X), 26), (b4, cl .u16 256 (pl n X), 27)] := hW
        exact Det.ob hW (d_loadA Try.underlying26 rfl sz26 rfl (hM.at 2 rfl) (cl_size _ _ _))
      · refine ⟨⟨rfl, trivial⟩, fun ph_ hp_ vs w hW _ => ?_⟩
        rcases memN_or hp_ with rfl | hp_
        · have hM : Mem w0 w [(b1, cl .u16 256 fun _ => 0, 26), (b2, cl .u16 256 fun _ => 0, 27), (b3, cl .u16 256 (pl n X), 26), (b4, cl .u16 256 (pl n X), 27)] := hW
          exact Det.ob hW (d_loadA Try.underlying27 rfl sz27 rfl (hM.at 3 rfl) (cl_size _ _ _))
        obtain rfl := memN_one hp_
        · have hM : Mem w0 w [(b1, cl .u16 256 (pl n X), 26), (b2, cl .u16 256 fun _ => 0, 27), (b3, cl .u16 256 (pl n X), 26), (b4, cl .u16 256 (pl n X), 27)] := hW
          exact Det.ob hW (d_loadA Try.underlying27 rfl sz27 rfl (hM.at 3 rfl) (cl_size _ _ _))
      · refine ⟨⟨rfl, trivial⟩, fun ph_ hp_ vs w hW _ => ?_⟩
        obtain rfl := memN_one hp_
        have hM : Mem w0 w [(b1, cl .u16 256 fun _ => 0, 26), (b2, cl .u16 256 fun _ => 0, 27), (b3, cl .u16 256 (pl n X), 26), (b4, cl .u16 256 (pl n X), 27)] := hW
        exact Ok1.obs (fun w' hu => by exact hM.upd 0 rfl hu) (ok_storeA (c' := cl .u16 256 (pl n X)) sz26 rfl rfl (cl_size _ _ _) (cl_one _ _ _) (hM.at 0 rfl) (cl_size _ _ _))
      · refine ⟨⟨rfl, trivial⟩, fun ph_ hp_ vs w hW _ => ?_⟩
        obtain rfl := memN_one hp_
        have hM : Mem w0 w [(b1, cl .u16 256 (pl n X), 26), (b2, cl .u16 256 fun _ => 0, 27), (b3, cl .u16 256 (pl n X), 26), (b4, cl .u16 256 (pl n X), 27)] := hW
        exact Ok1.obs (fun w' hu => by exact hM.upd 1 rfl hu) (ok_storeA (c' := cl .u16 256 (pl n X)) sz27 rfl rfl (cl_size _ _ _) (cl_one _ _ _) (hM.at 1 rfl) (cl_size _ _ _))
    · intro a w vs hW _ hF
      have hM : Mem w0 w [(b1, cl .u16 256 (pl n X), 26), (b2, cl .u16 256 (pl n X), 27), (b3, cl .u16 256 (pl n X), 26), (b4, cl .u16 256 (pl n X), 27)] := hW
      have hF := hF.sub (L' := [(0, (Value.slice (some ⟨bl, ol, none⟩) n cp)), (2, (Value.pointer (some ⟨b1, 0, none⟩))), (3, (Value.pointer (some ⟨b2, 0, none⟩))), (4, (Value.pointer (some ⟨b3, 0, none⟩))), (5, (Value.pointer (some ⟨b4, 0, none⟩))), (6, (Value.int .i64 (i : Int))), (14, (Value.bool false))]) ⟨rfl, rfl, rfl, rfl, rfl, rfl, rfl, trivial⟩
      refine then_n ?_
      refine wp_ret ?_
      refine body_ret hF (results2 Try.results10 (RV.cellA Try.underlying26 rfl sz26 hF rfl (hM.at 0 rfl) (cl_size _ _ _)) (RV.cellA Try.underlying27 rfl sz27 hF rfl (hM.at 1 rfl) (cl_size _ _ _))) ?_
      exact ⟨rfl, hM.below⟩

set_option maxRecDepth 100000 in
theorem poly0_calls (ad : Option Addr) (cp : Nat) (X : Nat → Int) (w0 : World) : Calls Try.prog 10 (List.toArray [.slice ad 0 cp]) w0 (Ret fun v w' => v = .tuple #[.agg (cl .u16 256 (pl 0 X)), .agg (cl .u16 256 (pl 0 X))] ∧ Gr w0 w') := by
  refine calls_of Try.func10 rfl Try.ntmps10 rfl fun a hF => ?_
  have hM := Mem.start w0
  have hF := hF.sub (L' := [(0, (Value.slice ad 0 cp))]) ⟨rfl, trivial⟩
  refine wp_seq ?_
  refine wp_region_lit ?_
  refine wlR (ok_alloc z26) rfl hF ?_
  rintro _ w a ⟨b1, rfl, hnb_⟩ hF
  have hM : Mem w0 w [(b1, cl .u16 256 fun _ => 0, 26)] := hM.alloc hnb_
  refine wlR (ok_alloc z27) rfl hF ?_
  rintro _ w a ⟨b2, rfl, hnb_⟩ hF
  have hM : Mem w0 w [(b1, cl .u16 256 fun _ => 0, 26), (b2, cl .u16 256 fun _ => 0, 27)] := hM.alloc hnb_
  refine wl_nil ?_
  have hF := hF.sub (L' := [(0, (Value.slice ad 0 cp)), (2, (Value.pointer (some ⟨b1, 0, none⟩))), (3, (Value.pointer (some ⟨b2, 0, none⟩)))]) ⟨rfl, rfl, rfl, trivial⟩
  refine then_n ?_
  refine wp_seq ?_
  refine wp_region_lit ?_
  refine wlR (ok_alloc z26) rfl hF ?_
  rintro _ w a ⟨b3, rfl, hnb_⟩ hF
  have hM : Mem w0 w [(b1, cl .u16 256 fun _ => 0, 26), (b2, cl .u16 256 fun _ => 0, 27), (b3, cl .u16 256 fun _ => 0, 26)] := hM.alloc hnb_
  refine wl_nil ?_
  have hF := hF.sub (L' := [(0, (Value.slice ad 0 cp)), (2, (Value.pointer (some ⟨b1, 0, none⟩))), (3, (Value.pointer (some ⟨b2, 0, none⟩))), (4, (Value.pointer (some ⟨b3, 0, none⟩)))]) ⟨rfl, rfl, rfl, rfl, trivial⟩
  refine then_n ?_
  refine wp_seq ?_
  refine wp_region_lit ?_
  refine wlR (ok_alloc z27) rfl hF ?_
  rintro _ w a ⟨b4, rfl, hnb_⟩ hF
  have hM : Mem w0 w [(b1, cl .u16 256 fun _ => 0, 26), (b2, cl .u16 256 fun _ => 0, 27), (b3, cl .u16 256 fun _ => 0, 26), (b4, cl .u16 256 fun _ => 0, 27)] := hM.alloc hnb_
  refine wl_nil ?_
  have hF := hF.sub (L' := [(0, (Value.slice ad 0 cp)), (2, (Value.pointer (some ⟨b1, 0, none⟩))), (3, (Value.pointer (some ⟨b2, 0, none⟩))), (4, (Value.pointer (some ⟨b3, 0, none⟩))), (5, (Value.pointer (some ⟨b4, 0, none⟩)))]) ⟨rfl, rfl, rfl, rfl, rfl, trivial⟩
  refine then_n ?_
  refine wp_seq ?_
  refine wp_seq ?_
  refine wp_region_lit ?_
  refine wl (d_assign rfl) rfl hF (fun a hF => ?_)
  refine wl_nil ?_
  have hF := hF.sub (L' := [(0, (Value.slice ad 0 cp)), (2, (Value.pointer (some ⟨b1, 0, none⟩))), (3, (Value.pointer (some ⟨b2, 0, none⟩))), (4, (Value.pointer (some ⟨b3, 0, none⟩))), (5, (Value.pointer (some ⟨b4, 0, none⟩))), (6, (Value.int .i64 0))]) ⟨rfl, rfl, rfl, rfl, rfl, rfl, trivial⟩
  refine then_n ?_
  refine wp_block ?_
  refine wp_loop_k (fun fu_ a w => ∃ i : Nat, fu_ = 0 ∧ (i = 0) ∧ Frm a 44 [(0, (Value.slice ad 0 cp)), (2, (Value.pointer (some ⟨b1, 0, none⟩))), (3, (Value.pointer (some ⟨b2, 0, none⟩))), (4, (Value.pointer (some ⟨b3, 0, none⟩))), (5, (Value.pointer (some ⟨b4, 0, none⟩))), (6, (Value.int .i64 (i : Int)))] ∧ Mem w0 w [(b1, cl .u16 256 fun _ => 0, 26), (b2, cl .u16 256 fun _ => 0, 27), (b3, cl .u16 256 (fun _ => 0), 26), (b4, cl .u16 256 (fun _ => 0), 27)]) _ ⟨0, rfl, rfl, hF.sub ⟨rfl, rfl, rfl, rfl, rfl, rfl, trivial⟩, ?_⟩ ?_
  · exact hM
  rintro _ a w ⟨i, rfl, hl1_0, hF, hM⟩
  refine wp_seq ?_
  refine wp_seq ?_
  refine wp_region_lit ?_
  refine wl (d_move rfl) rfl hF (fun a hF => ?_)
  refine wl (d_bool (c := true) (d_lss rfl rfl) (decide_eq_true (by omega))) rfl hF (fun a hF => ?_)
  refine wl (d_move rfl) rfl hF (fun a hF => ?_)
  refine wlg rfl (d_move rfl) rfl hF (fun a hF => ?_)
  refine wlg rfl (d_len_slice Try.underlying22 rfl) rfl hF (fun a hF => ?_)
  refine wlg rfl (d_bool (c := false) (d_gtr rfl rfl) (decide_eq_false (by omega))) rfl hF (fun a hF => ?_)
  refine wl (d_pick (b := true) rfl rfl) rfl hF (fun a hF => ?_)
  refine wl_nil ?_
  have hF := hF.sub (L' := [(0, (Value.slice ad 0 cp)), (2, (Value.pointer (some ⟨b1, 0, none⟩))), (3, (Value.pointer (some ⟨b2, 0, none⟩))), (4, (Value.pointer (some ⟨b3, 0, none⟩))), (5, (Value.pointer (some ⟨b4, 0, none⟩))), (6, (Value.int .i64 (i : Int))), (14, (Value.bool false))]) ⟨rfl, rfl, rfl, rfl, rfl, rfl, rfl, trivial⟩
  refine then_n ?_
  refine wp_cond_false (hF.eval rfl) ?_
  refine wp_exit ?_
  refine then_exit ?_
  refine then_exit ?_
  refine block_exit ?_
  refine then_n ?_
  refine wp_seq ?_
  refine region_plan Tt mo (fun ph_ w => Mem w0 w (([[(b1, cl .u16 256 fun _ => 0, 26), (b2, cl .u16 256 fun _ => 0, 27), (b3, cl .u16 256 (fun _ => 0), 26), (b4, cl .u16 256 (fun _ => 0), 27)], [(b1, cl .u16 256 (fun _ => 0), 26), (b2, cl .u16 256 fun _ => 0, 27), (b3, cl .u16 256 (fun _ => 0), 26), (b4, cl .u16 256 (fun _ => 0), 27)], [(b1, cl .u16 256 (fun _ => 0), 26), (b2, cl .u16 256 (fun _ => 0), 27), (b3, cl .u16 256 (fun _ => 0), 26), (b4, cl .u16 256 (fun _ => 0), 27)]] : List (List Blk)).getD ph_ [])) [2, 3] (rows := [⟨[], [(4, (Value.pointer (some ⟨b3, 0, none⟩)))], [0], .val (Value.agg (cl .u16 256 (fun _ => 0)))⟩, ⟨[], [(5, (Value.pointer (some ⟨b4, 0, none⟩)))], [0, 1], .val (Value.agg (cl .u16 256 (fun _ => 0)))⟩, ⟨[(0, 42)], [(2, (Value.pointer (some ⟨b1, 0, none⟩)))], [0], .rel (fun _ _ => True) (fun _ _ _ _ _ => trivial)⟩, ⟨[(1, 43)], [(3, (Value.pointer (some ⟨b2, 0, none⟩)))], [1], .rel (fun _ _ => True) (fun _ _ _ _ _ => trivial)⟩]) (by kernel_rfl) hF hM.drew ?_ ?_
  · refine ⟨?_, ?_, ?_, ?_, trivial⟩
    · refine ⟨⟨rfl, trivial⟩, fun ph_ hp_ vs w hW _ => ?_⟩
      obtain rfl := memN_one hp_
      have hM : Mem w0 w [(b1, cl .u16 256 fun _ => 0, 26), (b2, cl .u16 256 fun _ => 0, 27), (b3, cl .u16 256 (fun _ => 0), 26), (b4, cl .u16 256 (fun _ => 0), 27)] := hW
      exact Det.ob hW (d_loadA Try.underlying26 rfl sz26 rfl (hM.at 2 rfl) (cl_size _ _ _))
    · refine ⟨⟨rfl, trivial⟩, fun ph_ hp_ vs w hW _ => ?_⟩
      rcases memN_or hp_ with rfl | hp_
      · have hM : Mem w0 w [(b1, cl .u16 256 fun _ => 0, 26), (b2, cl .u16 256 fun _ => 0, 27), (b3, cl .u16 256 (fun _ => 0), 26), (b4, cl .u16 256 (fun _ => 0), 27)] := hW
        exact Det.ob hW (d_loadA Try.underlying27 rfl sz27 rfl (hM.at 3 rfl) (cl_size _ _ _))
      obtain rfl := memN_one hp_
      · have hM : Mem w0 w [(b1, cl .u16 256 (fun _ => 0), 26), (b2, cl .u16 256 fun _ => 0, 27), (b3, cl .u16 256 (fun _ => 0), 26), (b4, cl .u16 256 (fun _ => 0), 27)] := hW
        exact Det.ob hW (d_loadA Try.underlying27 rfl sz27 rfl (hM.at 3 rfl) (cl_size _ _ _))
    · refine ⟨⟨rfl, trivial⟩, fun ph_ hp_ vs w hW _ => ?_⟩
      obtain rfl := memN_one hp_
      have hM : Mem w0 w [(b1, cl .u16 256 fun _ => 0, 26), (b2, cl .u16 256 fun _ => 0, 27), (b3, cl .u16 256 (fun _ => 0), 26), (b4, cl .u16 256 (fun _ => 0), 27)] := hW
      exact Ok1.obs (fun w' hu => by exact hM.upd 0 rfl hu) (ok_storeA (c' := cl .u16 256 (fun _ => 0)) sz26 rfl rfl (cl_size _ _ _) (cl_one _ _ _) (hM.at 0 rfl) (cl_size _ _ _))
    · refine ⟨⟨rfl, trivial⟩, fun ph_ hp_ vs w hW _ => ?_⟩
      obtain rfl := memN_one hp_
      have hM : Mem w0 w [(b1, cl .u16 256 (fun _ => 0), 26), (b2, cl .u16 256 fun _ => 0, 27), (b3, cl .u16 256 (fun _ => 0), 26), (b4, cl .u16 256 (fun _ => 0), 27)] := hW
      exact Ok1.obs (fun w' hu => by exact hM.upd 1 rfl hu) (ok_storeA (c' := cl .u16 256 (fun _ => 0)) sz27 rfl rfl (cl_size _ _ _) (cl_one _ _ _) (hM.at 1 rfl) (cl_size _ _ _))
  · intro a w vs hW _ hF
    have hM : Mem w0 w [(b1, cl .u16 256 (fun _ => 0), 26), (b2, cl .u16 256 (fun _ => 0), 27), (b3, cl .u16 256 (fun _ => 0), 26), (b4, cl .u16 256 (fun _ => 0), 27)] := hW
    have hF := hF.sub (L' := [(0, (Value.slice ad 0 cp)), (2, (Value.pointer (some ⟨b1, 0, none⟩))), (3, (Value.pointer (some ⟨b2, 0, none⟩))), (4, (Value.pointer (some ⟨b3, 0, none⟩))), (5, (Value.pointer (some ⟨b4, 0, none⟩))), (6, (Value.int .i64 (i : Int))), (14, (Value.bool false))]) ⟨rfl, rfl, rfl, rfl, rfl, rfl, rfl, trivial⟩
    refine then_n ?_
    refine wp_ret ?_
    refine body_ret hF (results2 Try.results10 (RV.cellA Try.underlying26 rfl sz26 hF rfl (hM.at 0 rfl) (cl_size _ _ _)) (RV.cellA Try.underlying27 rfl sz27 hF rfl (hM.at 1 rfl) (cl_size _ _ _))) ?_
    exact ⟨by rw [show pl 0 X = fun _ => 0 from by funext i; simp [pl]], hM.below⟩
end Go.Mi.Ring
