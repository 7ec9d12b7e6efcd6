/- Walks: what functions of ring, and of the reference, return. -/
import Derived.Test.YthnkcocemlcpgaaR0
import Derived.Test.YthnkcocemlcpgaaRf
import Derived.Test.YthnkcocemlcpgaaR1
import Derived.Test.YthnkcocemlcpgaaRb
namespace Go.Mi.Ring
open Go.Mi Go.Proofs
set_option maxRecDepth 100000 in
theorem NTT_calls {F : Nat → Int} (hf : U16 F) (w0 : World) : Calls Try.prog 12 (List.toArray [.agg (cl .u16 256 F)]) w0 (Ret fun v w' => v = .agg (cl .u16 256 (sNTT F)) ∧ Gr w0 w') := by
  refine calls_of Try.func12 rfl Try.ntmps12 rfl fun a hF => ?_
  have hM := Mem.start w0
  have hF := hF.sub (L' := [(0, (Value.agg (cl .u16 256 F)))]) ⟨rfl, trivial⟩
  refine wp_seq ?_
  refine wp_region_lit ?_
  refine wlR (ok_box rfl) rfl hF ?_
  rintro _ w a ⟨b1, rfl, hnb_⟩ hF
  have hM : Mem w0 w [(b1, cl .u16 256 F, 26)] := hM.alloc hnb_
  refine wlR (ok_alloc z26) rfl hF ?_
  rintro _ w a ⟨b2, rfl, hnb_⟩ hF
  have hM : Mem w0 w [(b1, cl .u16 256 F, 26), (b2, cl .u16 256 fun _ => 0, 26)] := hM.alloc hnb_
  refine wl_nil ?_
  have hF := hF.sub (L' := [(0, (Value.agg (cl .u16 256 F))), (1, (Value.pointer (some ⟨b1, 0, none⟩))), (2, (Value.pointer (some ⟨b2, 0, none⟩)))]) ⟨rfl, rfl, rfl, trivial⟩
  refine then_n ?_
  refine wp_seq ?_
  refine wp_region_lit ?_
  refine wl (d_loadA Try.underlying26 rfl sz26 rfl (hM.at 0 rfl) (cl_size _ _ _)) rfl hF (fun a hF => ?_)
  refine wl (d_build0 Try.underlying26 (by kernel_rfl) z26) rfl hF (fun a hF => ?_)
  refine wlR (ok_call c17 rfl (Add_calls hf (fun _ _ => by omega) _)) rfl hF ?_
  rintro _ w a ⟨rfl, hg⟩ hF
  have hM := hM.call hg
  refine wl0R (ok_storeA (c' := cl .u16 256 (sAdd F (fun _ => 0))) sz26 rfl rfl (cl_size _ _ _) (cl_one _ _ _) (hM.at 0 rfl) (cl_size _ _ _)) hF ?_
  rintro w a hu hF
  have hM : Mem w0 w [(b1, cl .u16 256 (sAdd F (fun _ => 0)), 26), (b2, cl .u16 256 fun _ => 0, 26)] := hM.upd 0 rfl hu
  refine wl_nil ?_
  have hF := hF.sub (L' := [(0, (Value.agg (cl .u16 256 F))), (1, (Value.pointer (some ⟨b1, 0, none⟩))), (2, (Value.pointer (some ⟨b2, 0, none⟩)))]) ⟨rfl, rfl, rfl, trivial⟩
  refine then_n ?_
  refine wp_seq ?_
  refine wp_region_lit ?_
  refine wlR (ok_call c35 rfl (zetas_calls _)) rfl hF ?_
  rintro _ w a ⟨rfl, hg⟩ hF
  have hM := hM.call hg
  refine wlR (ok_alloc z54) rfl hF ?_
  rintro _ w a ⟨b3, rfl, hnb_⟩ hF
  have hM : Mem w0 w [(b1, cl .u16 256 (sAdd F (fun _ => 0)), 26), (b2, cl .u16 256 fun _ => 0, 26), (b3, cl .u32 128 fun _ => 0, 54)] := hM.alloc hnb_
  refine wl0R (ok_storeA (c' := cl .u32 128 zt) sz54 rfl rfl (cl_size _ _ _) (cl_one _ _ _) (hM.at 2 rfl) (cl_size _ _ _)) hF ?_
  rintro w a hu hF
  have hM : Mem w0 w [(b1, cl .u16 256 (sAdd F (fun _ => 0)), 26), (b2, cl .u16 256 fun _ => 0, 26), (b3, cl .u32 128 zt, 54)] := hM.upd 2 rfl hu
  refine wl (d_assign rfl) rfl hF (fun a hF => ?_)
  refine wl_nil ?_
  have hF := hF.sub (L' := [(0, (Value.agg (cl .u16 256 F))), (1, (Value.pointer (some ⟨b1, 0, none⟩))), (2, (Value.pointer (some ⟨b2, 0, none⟩))), (3, (Value.pointer (some ⟨b3, 0, none⟩))), (4, (Value.int .i64 1))]) ⟨rfl, rfl, rfl, rfl, rfl, trivial⟩
  refine then_n ?_
  refine wp_seq ?_
  refine wp_seq ?_
  refine wp_region_lit ?_
  refine wl (d_assign rfl) rfl hF (fun a hF => ?_)
  refine wl_nil ?_
  have hF := hF.sub (L' := [(0, (Value.agg (cl .u16 256 F))), (1, (Value.pointer (some ⟨b1, 0, none⟩))), (2, (Value.pointer (some ⟨b2, 0, none⟩))), (3, (Value.pointer (some ⟨b3, 0, none⟩))), (4, (Value.int .i64 1)), (5, (Value.int .i64 128))]) ⟨rfl, rfl, rfl, rfl, rfl, rfl, trivial⟩
  refine then_n ?_
  refine wp_block ?_
  refine wp_loop_k (fun fu_ a w => ∃ s : Nat, fu_ = 7 - s ∧ (s ≤ 7) ∧ Frm a 66 [(1, (Value.pointer (some ⟨b1, 0, none⟩))), (2, (Value.pointer (some ⟨b2, 0, none⟩))), (3, (Value.pointer (some ⟨b3, 0, none⟩))), (4, (Value.int .i64 ((mOf s : Nat) : Int))), (5, (Value.int .i64 ((hOf s : Nat) : Int)))] ∧ Mem w0 w [(b1, cl .u16 256 (lys s (rd F)), 26), (b2, cl .u16 256 fun _ => 0, 26), (b3, cl .u32 128 zt, 54)]) _ ⟨0, rfl, (by omega), hF.sub ⟨rfl, rfl, rfl, rfl, rfl, trivial⟩, ?_⟩ ?_
  · rw [sAdd_zero] at hM; exact hM
  rintro _ a w ⟨s, rfl, hl1_0, hF, hM⟩
  refine wp_seq ?_
  refine wp_seq ?_
  refine wp_region_lit ?_
  refine wl (d_move rfl) rfl hF (fun a hF => ?_)
  refine wl (d_geq rfl rfl) rfl hF (fun a hF => ?_)
  refine wl_nil ?_
  have hF := hF.sub (L' := [(1, (Value.pointer (some ⟨b1, 0, none⟩))), (2, (Value.pointer (some ⟨b2, 0, none⟩))), (3, (Value.pointer (some ⟨b3, 0, none⟩))), (4, (Value.int .i64 ((mOf s : Nat) : Int))), (5, (Value.int .i64 ((hOf s : Nat) : Int))), (14, (Value.bool (decide (2 ≤ ((hOf s : Nat) : Int)))))]) ⟨rfl, rfl, rfl, rfl, rfl, rfl, trivial⟩
  refine then_n ?_
  refine wp_if hF rfl (fun h => ?_) (fun h => ?_)
  · have h1 := of_decide_eq_true h
    clear h
    have hs7 : s ≠ 7 := by intro e; rw [e] at h1; exact absurd h1 (by decide)
    have hs6 : s ≤ 6 := by omega
    obtain ⟨hh2, hhm, hhs, hms, hm1, hm64, hh128⟩ := hm hs6
    refine wp_skip ?_
    refine then_n ?_
    refine wp_seq ?_
    refine wp_block ?_
    refine wp_seq ?_
    refine wp_region_lit ?_
    refine wl (d_assign rfl) rfl hF (fun a hF => ?_)
    refine wl_nil ?_
    have hF := hF.sub (L' := [(1, (Value.pointer (some ⟨b1, 0, none⟩))), (2, (Value.pointer (some ⟨b2, 0, none⟩))), (3, (Value.pointer (some ⟨b3, 0, none⟩))), (4, (Value.int .i64 ((mOf s : Nat) : Int))), (5, (Value.int .i64 ((hOf s : Nat) : Int))), (6, (Value.int .i64 0)), (14, (Value.bool (decide (2 ≤ ((hOf s : Nat) : Int)))))]) ⟨rfl, rfl, rfl, rfl, rfl, rfl, rfl, trivial⟩
    refine then_n ?_
    refine wp_block ?_
    refine wp_loop_k (fun fu_ a w => ∃ b p : Nat, fu_ = mOf s - b ∧ (p = hOf s * b) ∧ (b ≤ mOf s) ∧ Frm a 66 [(1, (Value.pointer (some ⟨b1, 0, none⟩))), (2, (Value.pointer (some ⟨b2, 0, none⟩))), (3, (Value.pointer (some ⟨b3, 0, none⟩))), (4, (Value.int .i64 ((mOf s + b : Nat) : Int))), (5, (Value.int .i64 ((hOf s : Nat) : Int))), (6, (Value.int .i64 ((2 * p : Nat) : Int)))] ∧ Mem w0 w [(b1, cl .u16 256 (to (2 * p) (lay (hOf s) (mOf s) (lys s (rd F))) (lys s (rd F))), 26), (b2, cl .u16 256 fun _ => 0, 26), (b3, cl .u32 128 zt, 54)]) _ ⟨0, 0, rfl, (by rw [Nat.mul_zero]), (by omega), hF.sub ⟨rfl, rfl, rfl, rfl, rfl, rfl, trivial⟩, ?_⟩ ?_
    · rw [Nat.mul_zero, to_zero]; exact hM
    rintro _ a w ⟨b, p, rfl, hl2_0, hl2_1, hF, hM⟩
    refine wp_seq ?_
    refine wp_seq ?_
    refine wp_region_lit ?_
    refine wl (d_move rfl) rfl hF (fun a hF => ?_)
    refine wl (d_lss rfl rfl) rfl hF (fun a hF => ?_)
    refine wl_nil ?_
    have hF := hF.sub (L' := [(1, (Value.pointer (some ⟨b1, 0, none⟩))), (2, (Value.pointer (some ⟨b2, 0, none⟩))), (3, (Value.pointer (some ⟨b3, 0, none⟩))), (4, (Value.int .i64 ((mOf s + b : Nat) : Int))), (5, (Value.int .i64 ((hOf s : Nat) : Int))), (6, (Value.int .i64 ((2 * p : Nat) : Int))), (18, (Value.bool (decide (((2 * p : Nat) : Int) < 256))))]) ⟨rfl, rfl, rfl, rfl, rfl, rfl, rfl, trivial⟩
    refine then_n ?_
    refine wp_if hF rfl (fun h => ?_) (fun h => ?_)
    · have h2 := of_decide_eq_true h
      clear h
      have hb := blk_lt hhm hl2_0 (by omega)
      have hph := blk_le hhm hl2_0 hb
      refine wp_skip ?_
      refine then_n ?_
      refine wp_seq ?_
      refine wp_block ?_
      refine wp_seq ?_
      refine wp_seq ?_
      refine wp_region_lit ?_
      refine wl (d_move rfl) rfl hF (fun a hF => ?_)
      refine wl (d_assign rfl) rfl hF (fun a hF => ?_)
      refine wl_nil ?_
      have hF := hF.sub (L' := [(1, (Value.pointer (some ⟨b1, 0, none⟩))), (2, (Value.pointer (some ⟨b2, 0, none⟩))), (3, (Value.pointer (some ⟨b3, 0, none⟩))), (4, (Value.int .i64 ((mOf s + b : Nat) : Int))), (5, (Value.int .i64 ((hOf s : Nat) : Int))), (6, (Value.int .i64 ((2 * p : Nat) : Int))), (7, (Value.int .i64 ((2 * p : Nat) : Int))), (18, (Value.bool (decide (((2 * p : Nat) : Int) < 256))))]) ⟨rfl, rfl, rfl, rfl, rfl, rfl, rfl, rfl, trivial⟩
      refine then_n ?_
      refine wp_block ?_
      refine wp_loop_k (fun fu_ a w => ∃ t : Nat, fu_ = hOf s - t ∧ (t ≤ hOf s) ∧ Frm a 66 [(1, (Value.pointer (some ⟨b1, 0, none⟩))), (2, (Value.pointer (some ⟨b2, 0, none⟩))), (3, (Value.pointer (some ⟨b3, 0, none⟩))), (4, (Value.int .i64 ((mOf s + b : Nat) : Int))), (5, (Value.int .i64 ((hOf s : Nat) : Int))), (6, (Value.int .i64 ((2 * p : Nat) : Int))), (7, (Value.int .i64 ((2 * p + t : Nat) : Int)))] ∧ Mem w0 w [(b1, cl .u16 256 (inn (2 * p) t (hOf s) (lay (hOf s) (mOf s) (lys s (rd F))) (to (2 * p) (lay (hOf s) (mOf s) (lys s (rd F))) (lys s (rd F)))), 26), (b2, cl .u16 256 fun _ => 0, 26), (b3, cl .u32 128 zt, 54)]) _ ⟨0, rfl, (by omega), hF.sub ⟨rfl, rfl, rfl, rfl, rfl, rfl, rfl, trivial⟩, ?_⟩ ?_
      · rw [inn_zero, show to (2 * p) (lay (hOf s) (mOf s) (lys s (rd F))) (to (2 * p) (lay (hOf s) (mOf s) (lys s (rd F))) (lys s (rd F))) = to (2 * p) (lay (hOf s) (mOf s) (lys s (rd F))) (lys s (rd F)) from by funext i; simp only [to]; split <;> simp_all]; exact hM
      rintro _ a w ⟨t, rfl, hl3_0, hF, hM⟩
      refine wp_seq ?_
      refine wp_seq ?_
      refine wp_region_lit ?_
      refine wl (d_move rfl) rfl hF (fun a hF => ?_)
      refine wl (d_move rfl) rfl hF (fun a hF => ?_)
      refine wl (d_move rfl) rfl hF (fun a hF => ?_)
      refine wl (d_add rfl rfl (wrap_i64 (by omega) (by omega))) rfl hF (fun a hF => ?_)
      refine wl (d_lss rfl rfl) rfl hF (fun a hF => ?_)
      refine wl_nil ?_
      have hF := hF.sub (L' := [(1, (Value.pointer (some ⟨b1, 0, none⟩))), (2, (Value.pointer (some ⟨b2, 0, none⟩))), (3, (Value.pointer (some ⟨b3, 0, none⟩))), (4, (Value.int .i64 ((mOf s + b : Nat) : Int))), (5, (Value.int .i64 ((hOf s : Nat) : Int))), (6, (Value.int .i64 ((2 * p : Nat) : Int))), (7, (Value.int .i64 ((2 * p + t : Nat) : Int))), (28, (Value.bool (decide (((2 * p + t : Nat) : Int) < (((2 * p : Nat) : Int) + ((hOf s : Nat) : Int))))))]) ⟨rfl, rfl, rfl, rfl, rfl, rfl, rfl, rfl, trivial⟩
      refine then_n ?_
      refine wp_if hF rfl (fun h => ?_) (fun h => ?_)
      · have h3 := of_decide_eq_true h
        clear h
        have eL : to (2 * p) (lay (hOf s) (mOf s) (lys s (rd F))) (lys s (rd F)) (2 * p + t) = (lys s (rd F)) (2 * p + t) := to_ge _ _ (by omega)
        have eH : to (2 * p) (lay (hOf s) (mOf s) (lys s (rd F))) (lys s (rd F)) (2 * p + t + hOf s) = (lys s (rd F)) (2 * p + t + hOf s) := to_ge _ _ (by omega)
        have bL := lys_red (rd_red F) s (2 * p + t) (by omega)
        have bH := lys_red (rd_red F) s (2 * p + t + hOf s) (by omega)
        have bz := zt_b (mOf s + b)
        have bm := mulb bz bH
        have vL := lay_lo (m := mOf s) (lys s (rd F)) hl2_0 (show t < hOf s by omega)
        have vH := lay_hi (m := mOf s) (lys s (rd F)) hl2_0 (show t < hOf s by omega)
        refine wp_skip ?_
        refine then_n ?_
        refine wp_seq ?_
        refine wp_block ?_
        refine wp_seq ?_
        refine region_plan Tt mo (fun ph_ w => Mem w0 w (([[(b1, cl .u16 256 (inn (2 * p) t (hOf s) (lay (hOf s) (mOf s) (lys s (rd F))) (to (2 * p) (lay (hOf s) (mOf s) (lys s (rd F))) (lys s (rd F)))), 26), (b2, cl .u16 256 fun _ => 0, 26), (b3, cl .u32 128 zt, 54)]] : List (List Blk)).getD ph_ [])) [] (rows := [⟨[], [(4, (Value.int .i64 ((mOf s + b : Nat) : Int)))], [0], .val (Value.int .i64 ((mOf s + b : Nat) : Int))⟩, ⟨[(0, 31)], [(3, (Value.pointer (some ⟨b3, 0, none⟩)))], [0], .val (Value.pointer (some ⟨b3, mOf s + b, none⟩))⟩, ⟨[(1, 32)], [], [0], .val (Value.int .u32 (zt (mOf s + b)))⟩, ⟨[], [(7, (Value.int .i64 ((2 * p + t : Nat) : Int)))], [0], .val (Value.int .i64 ((2 * p + t : Nat) : Int))⟩, ⟨[], [(5, (Value.int .i64 ((hOf s : Nat) : Int)))], [0], .val (Value.int .i64 ((hOf s : Nat) : Int))⟩, ⟨[(3, 34), (4, 35)], [], [0], .val (Value.int .i64 (((2 * p + t : Nat) : Int) + ((hOf s : Nat) : Int)))⟩, ⟨[(5, 36)], [(1, (Value.pointer (some ⟨b1, 0, none⟩)))], [0], .val (Value.pointer (some ⟨b1, 2 * p + t + hOf s, none⟩))⟩, ⟨[(6, 37)], [], [0], .val (Value.int .u16 ((lys s (rd F)) (2 * p + t + hOf s)))⟩, ⟨[(7, 38)], [], [0], .val (Value.int .u32 ((lys s (rd F)) (2 * p + t + hOf s)))⟩, ⟨[(2, 33), (8, 39)], [], [0], .val (Value.int .u32 (zt (mOf s + b) * (lys s (rd F)) (2 * p + t + hOf s)))⟩, ⟨[(9, 40)], [], [0], .val (Value.int .u32 ((zt (mOf s + b) * (lys s (rd F)) (2 * p + t + hOf s)) % 3329))⟩, ⟨[(10, 41)], [], [0], .val (Value.int .u32 ((zt (mOf s + b) * (lys s (rd F)) (2 * p + t + hOf s)) % 3329))⟩]) (by kernel_rfl) hF hM.drew ?_ ?_
        · refine ⟨?_, ?_, ?_, ?_, ?_, ?_, ?_, ?_, ?_, ?_, ?_, ?_, trivial⟩
          · exact ⟨⟨rfl, trivial⟩, fun ph_ _ vs w hW _ => Det.ob hW (d_move rfl)⟩
          · exact ⟨⟨rfl, trivial⟩, fun ph_ _ vs w hW _ => Det.ob hW (d_ixA0 (j := mOf s + b) Try.underlying54 sz53 rfl rfl rfl (by omega))⟩
          · refine ⟨trivial, fun ph_ hp_ vs w hW _ => ?_⟩
            obtain rfl := memN_one hp_
            have hM : Mem w0 w [(b1, cl .u16 256 (inn (2 * p) t (hOf s) (lay (hOf s) (mOf s) (lys s (rd F))) (to (2 * p) (lay (hOf s) (mOf s) (lys s (rd F))) (lys s (rd F)))), 26), (b2, cl .u16 256 fun _ => 0, 26), (b3, cl .u32 128 zt, 54)] := hW
            exact Det.ob hW (d_load1 Try.underlying53 rfl rfl (hM.cell 2 rfl (cl_get (by omega))))
          · exact ⟨⟨rfl, trivial⟩, fun ph_ _ vs w hW _ => Det.ob hW (d_move rfl)⟩
          · exact ⟨⟨rfl, trivial⟩, fun ph_ _ vs w hW _ => Det.ob hW (d_move rfl)⟩
          · exact ⟨trivial, fun ph_ _ vs w hW _ => Det.ob hW (d_add rfl rfl (wrap_i64 (by omega) (by omega)))⟩
          · exact ⟨⟨rfl, trivial⟩, fun ph_ _ vs w hW _ => Det.ob hW (d_ixA0 (j := 2 * p + t + hOf s) Try.underlying26 sz24 rfl rfl (by omega) (by omega))⟩
          · refine ⟨trivial, fun ph_ hp_ vs w hW _ => ?_⟩
            obtain rfl := memN_one hp_
            have hM : Mem w0 w [(b1, cl .u16 256 (inn (2 * p) t (hOf s) (lay (hOf s) (mOf s) (lys s (rd F))) (to (2 * p) (lay (hOf s) (mOf s) (lys s (rd F))) (lys s (rd F)))), 26), (b2, cl .u16 256 fun _ => 0, 26), (b3, cl .u32 128 zt, 54)] := hW
            exact Det.ob hW (d_load1 Try.underlying24 rfl rfl (hM.cell 0 rfl (by rw [cl_get (by omega), inn_hi, eH])))
          · exact ⟨trivial, fun ph_ _ vs w hW _ => Det.ob hW (d_conv Try.underlying24 Try.underlying53 rfl (wrap_u32 (by omega) (by omega)))⟩
          · exact ⟨trivial, fun ph_ _ vs w hW _ => Det.ob hW (d_mul rfl rfl (wrap_u32 (by omega) (by omega)))⟩
          · exact ⟨trivial, fun ph_ _ vs w hW _ => Det.ob hW (d_rem rfl rfl (by omega) (tmod_pos (by omega)))⟩
          · exact ⟨trivial, fun ph_ _ vs w hW _ => Det.ob hW (d_assign rfl)⟩
        · intro a w vs hW _ hF
          have hM : Mem w0 w [(b1, cl .u16 256 (inn (2 * p) t (hOf s) (lay (hOf s) (mOf s) (lys s (rd F))) (to (2 * p) (lay (hOf s) (mOf s) (lys s (rd F))) (lys s (rd F)))), 26), (b2, cl .u16 256 fun _ => 0, 26), (b3, cl .u32 128 zt, 54)] := hW
          have hF := hF.sub (L' := [(1, (Value.pointer (some ⟨b1, 0, none⟩))), (2, (Value.pointer (some ⟨b2, 0, none⟩))), (3, (Value.pointer (some ⟨b3, 0, none⟩))), (4, (Value.int .i64 ((mOf s + b : Nat) : Int))), (5, (Value.int .i64 ((hOf s : Nat) : Int))), (6, (Value.int .i64 ((2 * p : Nat) : Int))), (7, (Value.int .i64 ((2 * p + t : Nat) : Int))), (8, (Value.int .u32 ((zt (mOf s + b) * (lys s (rd F)) (2 * p + t + hOf s)) % 3329))), (28, (Value.bool (decide (((2 * p + t : Nat) : Int) < (((2 * p : Nat) : Int) + ((hOf s : Nat) : Int))))))]) ⟨rfl, rfl, rfl, rfl, rfl, rfl, rfl, rfl, rfl, trivial⟩
          refine then_n ?_
          refine region_plan Tt mo (fun ph_ w => Mem w0 w (([[(b1, cl .u16 256 (inn (2 * p) t (hOf s) (lay (hOf s) (mOf s) (lys s (rd F))) (to (2 * p) (lay (hOf s) (mOf s) (lys s (rd F))) (lys s (rd F)))), 26), (b2, cl .u16 256 fun _ => 0, 26), (b3, cl .u32 128 zt, 54)], [(b1, cl .u16 256 (upd (inn (2 * p) t (hOf s) (lay (hOf s) (mOf s) (lys s (rd F))) (to (2 * p) (lay (hOf s) (mOf s) (lys s (rd F))) (lys s (rd F)))) (2 * p + t) (((lys s (rd F)) (2 * p + t) + ((zt (mOf s + b) * (lys s (rd F)) (2 * p + t + hOf s)) % 3329)) % 3329)), 26), (b2, cl .u16 256 fun _ => 0, 26), (b3, cl .u32 128 zt, 54)], [(b1, cl .u16 256 (upd (upd (inn (2 * p) t (hOf s) (lay (hOf s) (mOf s) (lys s (rd F))) (to (2 * p) (lay (hOf s) (mOf s) (lys s (rd F))) (lys s (rd F)))) (2 * p + t) (((lys s (rd F)) (2 * p + t) + ((zt (mOf s + b) * (lys s (rd F)) (2 * p + t + hOf s)) % 3329)) % 3329)) (2 * p + t + hOf s) ((((lys s (rd F)) (2 * p + t) + 3329) - ((zt (mOf s + b) * (lys s (rd F)) (2 * p + t + hOf s)) % 3329)) % 3329)), 26), (b2, cl .u16 256 fun _ => 0, 26), (b3, cl .u32 128 zt, 54)]] : List (List Blk)).getD ph_ [])) [20, 22] (rows := [⟨[], [(7, (Value.int .i64 ((2 * p + t : Nat) : Int)))], [0], .val (Value.int .i64 ((2 * p + t : Nat) : Int))⟩, ⟨[], [(7, (Value.int .i64 ((2 * p + t : Nat) : Int)))], [0, 1], .val (Value.int .i64 ((2 * p + t : Nat) : Int))⟩, ⟨[], [(5, (Value.int .i64 ((hOf s : Nat) : Int)))], [0, 1], .val (Value.int .i64 ((hOf s : Nat) : Int))⟩, ⟨[(1, 43), (2, 44)], [], [0, 1], .val (Value.int .i64 (((2 * p + t : Nat) : Int) + ((hOf s : Nat) : Int)))⟩, ⟨[], [(7, (Value.int .i64 ((2 * p + t : Nat) : Int)))], [0], .val (Value.int .i64 ((2 * p + t : Nat) : Int))⟩, ⟨[(4, 46)], [(1, (Value.pointer (some ⟨b1, 0, none⟩)))], [0], .val (Value.pointer (some ⟨b1, 2 * p + t, none⟩))⟩, ⟨[(5, 47)], [], [0], .val (Value.int .u16 ((lys s (rd F)) (2 * p + t)))⟩, ⟨[(6, 48)], [], [0], .val (Value.int .u32 ((lys s (rd F)) (2 * p + t)))⟩, ⟨[], [(8, (Value.int .u32 ((zt (mOf s + b) * (lys s (rd F)) (2 * p + t + hOf s)) % 3329)))], [0], .val (Value.int .u32 ((zt (mOf s + b) * (lys s (rd F)) (2 * p + t + hOf s)) % 3329))⟩, ⟨[(7, 49), (8, 50)], [], [0], .val (Value.int .u32 ((lys s (rd F)) (2 * p + t) + ((zt (mOf s + b) * (lys s (rd F)) (2 * p + t + hOf s)) % 3329)))⟩, ⟨[(9, 51)], [], [0], .val (Value.int .u16 (((lys s (rd F)) (2 * p + t) + ((zt (mOf s + b) * (lys s (rd F)) (2 * p + t + hOf s)) % 3329)) % 3329))⟩, ⟨[], [(7, (Value.int .i64 ((2 * p + t : Nat) : Int)))], [0], .val (Value.int .i64 ((2 * p + t : Nat) : Int))⟩, ⟨[(11, 53)], [(1, (Value.pointer (some ⟨b1, 0, none⟩)))], [0], .val (Value.pointer (some ⟨b1, 2 * p + t, none⟩))⟩, ⟨[(12, 54)], [], [0], .val (Value.int .u16 ((lys s (rd F)) (2 * p + t)))⟩, ⟨[(13, 55)], [], [0], .val (Value.int .u32 ((lys s (rd F)) (2 * p + t)))⟩, ⟨[(14, 56)], [], [0], .val (Value.int .u32 ((lys s (rd F)) (2 * p + t) + 3329))⟩, ⟨[], [(8, (Value.int .u32 ((zt (mOf s + b) * (lys s (rd F)) (2 * p + t + hOf s)) % 3329)))], [0], .val (Value.int .u32 ((zt (mOf s + b) * (lys s (rd F)) (2 * p + t + hOf s)) % 3329))⟩, ⟨[(15, 57), (16, 58)], [], [0], .val (Value.int .u32 (((lys s (rd F)) (2 * p + t) + 3329) - ((zt (mOf s + b) * (lys s (rd F)) (2 * p + t + hOf s)) % 3329)))⟩, ⟨[(17, 59)], [], [0], .val (Value.int .u16 ((((lys s (rd F)) (2 * p + t) + 3329) - ((zt (mOf s + b) * (lys s (rd F)) (2 * p + t + hOf s)) % 3329)) % 3329))⟩, ⟨[(0, 42)], [(1, (Value.pointer (some ⟨b1, 0, none⟩)))], [0], .val (Value.pointer (some ⟨b1, 2 * p + t, none⟩))⟩, ⟨[(19, 61), (10, 52)], [], [0], .rel (fun _ _ => True) (fun _ _ _ _ _ => trivial)⟩, ⟨[(3, 45)], [(1, (Value.pointer (some ⟨b1, 0, none⟩)))], [1], .val (Value.pointer (some ⟨b1, 2 * p + t + hOf s, none⟩))⟩, ⟨[(21, 62), (18, 60)], [], [1], .rel (fun _ _ => True) (fun _ _ _ _ _ => trivial)⟩]) (by kernel_rfl) hF hM.drew ?_ ?_
          · refine ⟨?_, ?_, ?_, ?_, ?_, ?_, ?_, ?_, ?_, ?_, ?_, ?_, ?_, ?_, ?_, ?_, ?_, ?_, ?_, ?_, ?_, ?_, ?_, trivial⟩
            · exact ⟨⟨rfl, trivial⟩, fun ph_ _ vs w hW _ => Det.ob hW (d_move rfl)⟩
            · exact ⟨⟨rfl, trivial⟩, fun ph_ _ vs w hW _ => Det.ob hW (d_move rfl)⟩
            · exact ⟨⟨rfl, trivial⟩, fun ph_ _ vs w hW _ => Det.ob hW (d_move rfl)⟩
            · exact ⟨trivial, fun ph_ _ vs w hW _ => Det.ob hW (d_add rfl rfl (wrap_i64 (by omega) (by omega)))⟩
            · exact ⟨⟨rfl, trivial⟩, fun ph_ _ vs w hW _ => Det.ob hW (d_move rfl)⟩
            · exact ⟨⟨rfl, trivial⟩, fun ph_ _ vs w hW _ => Det.ob hW (d_ixA0 (j := 2 * p + t) Try.underlying26 sz24 rfl rfl rfl (by omega))⟩
            · refine ⟨trivial, fun ph_ hp_ vs w hW _ => ?_⟩
              obtain rfl := memN_one hp_
              have hM : Mem w0 w [(b1, cl .u16 256 (inn (2 * p) t (hOf s) (lay (hOf s) (mOf s) (lys s (rd F))) (to (2 * p) (lay (hOf s) (mOf s) (lys s (rd F))) (lys s (rd F)))), 26), (b2, cl .u16 256 fun _ => 0, 26), (b3, cl .u32 128 zt, 54)] := hW
              exact Det.ob hW (d_load1 Try.underlying24 rfl rfl (hM.cell 0 rfl (by rw [cl_get (by omega), inn_lo _ _ (by omega), eL])))
            · exact ⟨trivial, fun ph_ _ vs w hW _ => Det.ob hW (d_conv Try.underlying24 Try.underlying53 rfl (wrap_u32 (by omega) (by omega)))⟩
            · exact ⟨⟨rfl, trivial⟩, fun ph_ _ vs w hW _ => Det.ob hW (d_move rfl)⟩
            · exact ⟨trivial, fun ph_ _ vs w hW _ => Det.ob hW (d_add rfl rfl (wrap_u32 (by omega) (by omega)))⟩
            · exact ⟨trivial, fun ph_ _ vs w hW _ => Ok1.obc (fun w' g => Mem.call hW g) (ok_call c36 rfl (mod_calls _ (by omega) (by omega) _))⟩
            · exact ⟨⟨rfl, trivial⟩, fun ph_ _ vs w hW _ => Det.ob hW (d_move rfl)⟩
            · exact ⟨⟨rfl, trivial⟩, fun ph_ _ vs w hW _ => Det.ob hW (d_ixA0 (j := 2 * p + t) Try.underlying26 sz24 rfl rfl rfl (by omega))⟩
            · refine ⟨trivial, fun ph_ hp_ vs w hW _ => ?_⟩
              obtain rfl := memN_one hp_
              have hM : Mem w0 w [(b1, cl .u16 256 (inn (2 * p) t (hOf s) (lay (hOf s) (mOf s) (lys s (rd F))) (to (2 * p) (lay (hOf s) (mOf s) (lys s (rd F))) (lys s (rd F)))), 26), (b2, cl .u16 256 fun _ => 0, 26), (b3, cl .u32 128 zt, 54)] := hW
              exact Det.ob hW (d_load1 Try.underlying24 rfl rfl (hM.cell 0 rfl (by rw [cl_get (by omega), inn_lo _ _ (by omega), eL])))
            · exact ⟨trivial, fun ph_ _ vs w hW _ => Det.ob hW (d_conv Try.underlying24 Try.underlying53 rfl (wrap_u32 (by omega) (by omega)))⟩
            · exact ⟨trivial, fun ph_ _ vs w hW _ => Det.ob hW (d_add rfl rfl (wrap_u32 (by omega) (by omega)))⟩
            · exact ⟨⟨rfl, trivial⟩, fun ph_ _ vs w hW _ => Det.ob hW (d_move rfl)⟩
            · exact ⟨trivial, fun ph_ _ vs w hW _ => Det.ob hW (d_sub rfl rfl (wrap_u32 (by omega) (by omega)))⟩
            · exact ⟨trivial, fun ph_ _ vs w hW _ => Ok1.obc (fun w' g => Mem.call hW g) (ok_call c36 rfl (mod_calls _ (by omega) (by omega) _))⟩
            · exact ⟨⟨rfl, trivial⟩, fun ph_ _ vs w hW _ => Det.ob hW (d_ixA0 (j := 2 * p + t) Try.underlying26 sz24 rfl rfl rfl (by omega))⟩
            · refine ⟨trivial, fun ph_ hp_ vs w hW _ => ?_⟩
              obtain rfl := memN_one hp_
              have hM : Mem w0 w [(b1, cl .u16 256 (inn (2 * p) t (hOf s) (lay (hOf s) (mOf s) (lys s (rd F))) (to (2 * p) (lay (hOf s) (mOf s) (lys s (rd F))) (lys s (rd F)))), 26), (b2, cl .u16 256 fun _ => 0, 26), (b3, cl .u32 128 zt, 54)] := hW
              exact Ok1.obs (fun w' hu => by rw [cl_set] at hu; exact hM.upd 0 rfl hu) (ok_store1 (v := (Value.int .u16 (((lys s (rd F)) (2 * p + t) + ((zt (mOf s + b) * (lys s (rd F)) (2 * p + t + hOf s)) % 3329)) % 3329))) sz24 rfl rfl rfl (hM.at 0 rfl) (by rw [cl_size]; omega))
            · exact ⟨⟨rfl, trivial⟩, fun ph_ _ vs w hW _ => Det.ob hW (d_ixA0 (j := 2 * p + t + hOf s) Try.underlying26 sz24 rfl rfl (by omega) (by omega))⟩
            · refine ⟨trivial, fun ph_ hp_ vs w hW _ => ?_⟩
              obtain rfl := memN_one hp_
              have hM : Mem w0 w [(b1, cl .u16 256 (upd (inn (2 * p) t (hOf s) (lay (hOf s) (mOf s) (lys s (rd F))) (to (2 * p) (lay (hOf s) (mOf s) (lys s (rd F))) (lys s (rd F)))) (2 * p + t) (((lys s (rd F)) (2 * p + t) + ((zt (mOf s + b) * (lys s (rd F)) (2 * p + t + hOf s)) % 3329)) % 3329)), 26), (b2, cl .u16 256 fun _ => 0, 26), (b3, cl .u32 128 zt, 54)] := hW
              exact Ok1.obs (fun w' hu => by rw [cl_set] at hu; exact hM.upd 0 rfl hu) (ok_store1 (v := (Value.int .u16 ((((lys s (rd F)) (2 * p + t) + 3329) - ((zt (mOf s + b) * (lys s (rd F)) (2 * p + t + hOf s)) % 3329)) % 3329))) sz24 rfl rfl rfl (hM.at 0 rfl) (by rw [cl_size]; omega))
          · intro a w vs hW _ hF
            have hM : Mem w0 w [(b1, cl .u16 256 (upd (upd (inn (2 * p) t (hOf s) (lay (hOf s) (mOf s) (lys s (rd F))) (to (2 * p) (lay (hOf s) (mOf s) (lys s (rd F))) (lys s (rd F)))) (2 * p + t) (((lys s (rd F)) (2 * p + t) + ((zt (mOf s + b) * (lys s (rd F)) (2 * p + t + hOf s)) % 3329)) % 3329)) (2 * p + t + hOf s) ((((lys s (rd F)) (2 * p + t) + 3329) - ((zt (mOf s + b) * (lys s (rd F)) (2 * p + t + hOf s)) % 3329)) % 3329)), 26), (b2, cl .u16 256 fun _ => 0, 26), (b3, cl .u32 128 zt, 54)] := hW
            have hF := hF.sub (L' := [(1, (Value.pointer (some ⟨b1, 0, none⟩))), (2, (Value.pointer (some ⟨b2, 0, none⟩))), (3, (Value.pointer (some ⟨b3, 0, none⟩))), (4, (Value.int .i64 ((mOf s + b : Nat) : Int))), (5, (Value.int .i64 ((hOf s : Nat) : Int))), (6, (Value.int .i64 ((2 * p : Nat) : Int))), (7, (Value.int .i64 ((2 * p + t : Nat) : Int))), (8, (Value.int .u32 ((zt (mOf s + b) * (lys s (rd F)) (2 * p + t + hOf s)) % 3329))), (28, (Value.bool (decide (((2 * p + t : Nat) : Int) < (((2 * p : Nat) : Int) + ((hOf s : Nat) : Int))))))]) ⟨rfl, rfl, rfl, rfl, rfl, rfl, rfl, rfl, rfl, trivial⟩
            refine block_n ?_
            refine then_n ?_
            refine wp_region_lit ?_
            refine wl (d_move rfl) rfl hF (fun a hF => ?_)
            refine wl (d_add rfl rfl (wrap_i64 (by omega) (by omega))) rfl hF (fun a hF => ?_)
            refine wl (d_assign rfl) rfl hF (fun a hF => ?_)
            refine wl_nil ?_
            have hF := hF.sub (L' := [(1, (Value.pointer (some ⟨b1, 0, none⟩))), (2, (Value.pointer (some ⟨b2, 0, none⟩))), (3, (Value.pointer (some ⟨b3, 0, none⟩))), (4, (Value.int .i64 ((mOf s + b : Nat) : Int))), (5, (Value.int .i64 ((hOf s : Nat) : Int))), (6, (Value.int .i64 ((2 * p : Nat) : Int))), (7, (Value.int .i64 (((2 * p + t : Nat) : Int) + 1))), (8, (Value.int .u32 ((zt (mOf s + b) * (lys s (rd F)) (2 * p + t + hOf s)) % 3329))), (28, (Value.bool (decide (((2 * p + t : Nat) : Int) < (((2 * p : Nat) : Int) + ((hOf s : Nat) : Int))))))]) ⟨rfl, rfl, rfl, rfl, rfl, rfl, rfl, rfl, rfl, trivial⟩
            refine then_n ?_
            refine ⟨_, ?_, t + 1, rfl, (by omega), hF.sub ⟨rfl, rfl, rfl, rfl, rfl, rfl, rfl, trivial⟩, ?_⟩
            · omega
            rw [inn_step (by omega) vL.symm vH.symm] at hM
            exact hM
      · have h3 := of_decide_eq_false h
        clear h
        have ht : t = hOf s := by omega
        refine wp_exit ?_
        refine then_exit ?_
        refine then_exit ?_
        refine block_exit ?_
        refine then_n ?_
        refine wp_region_lit ?_
        refine wl (d_move rfl) rfl hF (fun a hF => ?_)
        refine wl (d_add rfl rfl (wrap_i64 (by omega) (by omega))) rfl hF (fun a hF => ?_)
        refine wl (d_assign rfl) rfl hF (fun a hF => ?_)
        refine wl_nil ?_
        have hF := hF.sub (L' := [(1, (Value.pointer (some ⟨b1, 0, none⟩))), (2, (Value.pointer (some ⟨b2, 0, none⟩))), (3, (Value.pointer (some ⟨b3, 0, none⟩))), (4, (Value.int .i64 (((mOf s + b : Nat) : Int) + 1))), (5, (Value.int .i64 ((hOf s : Nat) : Int))), (6, (Value.int .i64 ((2 * p : Nat) : Int))), (7, (Value.int .i64 ((2 * p + t : Nat) : Int))), (28, (Value.bool (decide (((2 * p + t : Nat) : Int) < (((2 * p : Nat) : Int) + ((hOf s : Nat) : Int))))))]) ⟨rfl, rfl, rfl, rfl, rfl, rfl, rfl, rfl, trivial⟩
        refine block_n ?_
        refine then_n ?_
        refine wp_region_lit ?_
        refine wl (d_move rfl) rfl hF (fun a hF => ?_)
        refine wl (d_move rfl) rfl hF (fun a hF => ?_)
        refine wl (d_mul rfl rfl (wrap_i64 (by omega) (by omega))) rfl hF (fun a hF => ?_)
        refine wl (d_add rfl rfl (wrap_i64 (by omega) (by omega))) rfl hF (fun a hF => ?_)
        refine wl (d_assign rfl) rfl hF (fun a hF => ?_)
        refine wl_nil ?_
        have hF := hF.sub (L' := [(1, (Value.pointer (some ⟨b1, 0, none⟩))), (2, (Value.pointer (some ⟨b2, 0, none⟩))), (3, (Value.pointer (some ⟨b3, 0, none⟩))), (4, (Value.int .i64 (((mOf s + b : Nat) : Int) + 1))), (5, (Value.int .i64 ((hOf s : Nat) : Int))), (6, (Value.int .i64 (((2 * p : Nat) : Int) + (2 * ((hOf s : Nat) : Int))))), (7, (Value.int .i64 ((2 * p + t : Nat) : Int))), (28, (Value.bool (decide (((2 * p + t : Nat) : Int) < (((2 * p : Nat) : Int) + ((hOf s : Nat) : Int))))))]) ⟨rfl, rfl, rfl, rfl, rfl, rfl, rfl, rfl, trivial⟩
        refine then_n ?_
        have e6 : (((2 * p : Nat) : Int) + 2 * ((hOf s : Nat) : Int)) = ((2 * (p + hOf s) : Nat) : Int) := by omega
        rw [e6] at hF
        rw [ht, inn_all, show to (2 * p + 2 * hOf s) (lay (hOf s) (mOf s) (lys s (rd F))) (to (2 * p) (lay (hOf s) (mOf s) (lys s (rd F))) (lys s (rd F))) = to (2 * p + 2 * hOf s) (lay (hOf s) (mOf s) (lys s (rd F))) (lys s (rd F)) from by funext i; simp only [to]; split <;> first | rfl | (rw [if_neg (by omega)])] at hM
        refine ⟨_, ?_, b + 1, p + hOf s, rfl, (by rw [Nat.mul_succ]; omega), (by omega), hF.sub ⟨rfl, rfl, rfl, rfl, rfl, rfl, trivial⟩, ?_⟩
        · omega
        rw [show 2 * (p + hOf s) = 2 * p + 2 * hOf s by omega]
        exact hM
    · have h2 := of_decide_eq_false h
      clear h
      have hb := blk_eq hhm hl2_0 (by omega) hl2_1 hh2
      refine wp_exit ?_
      refine then_exit ?_
      refine then_exit ?_
      refine block_exit ?_
      refine block_n ?_
      refine then_n ?_
      refine wp_region_lit ?_
      refine wl (d_move rfl) rfl hF (fun a hF => ?_)
      refine wl (d_quo rfl rfl (by omega) (quo_i64 (by omega) (by omega) (by omega))) rfl hF (fun a hF => ?_)
      refine wl (d_assign rfl) rfl hF (fun a hF => ?_)
      refine wl_nil ?_
      have hF := hF.sub (L' := [(1, (Value.pointer (some ⟨b1, 0, none⟩))), (2, (Value.pointer (some ⟨b2, 0, none⟩))), (3, (Value.pointer (some ⟨b3, 0, none⟩))), (4, (Value.int .i64 ((mOf s + b : Nat) : Int))), (5, (Value.int .i64 (((hOf s : Nat) : Int) / 2))), (6, (Value.int .i64 ((2 * p : Nat) : Int))), (18, (Value.bool (decide (((2 * p : Nat) : Int) < 256))))]) ⟨rfl, rfl, rfl, rfl, rfl, rfl, rfl, trivial⟩
      refine then_n ?_
      rw [hb, show mOf s + mOf s = mOf (s + 1) by omega] at hF
      rw [show 2 * p = 256 by have := hl2_0; rw [hb] at this; omega, to_all] at hM
      have hF : Frm a 66 [(1, Value.pointer (some ⟨b1, 0, none⟩)), (2, Value.pointer (some ⟨b2, 0, none⟩)), (3, Value.pointer (some ⟨b3, 0, none⟩)), (4, Value.int .i64 ((mOf (s + 1) : Nat) : Int)), (5, Value.int .i64 ((hOf (s + 1) : Nat) : Int))] := by
        rw [show ((hOf (s + 1) : Nat) : Int) = ((hOf s : Nat) : Int) / 2 by omega]
        exact hF.sub ⟨rfl, rfl, rfl, rfl, rfl, trivial⟩
      refine ⟨_, ?_, s + 1, rfl, (by omega), hF.sub ⟨rfl, rfl, rfl, rfl, rfl, trivial⟩, ?_⟩
      · omega
      exact hM
  · have h1 := of_decide_eq_false h
    clear h
    have hs : ¬ s ≤ 6 := fun h => absurd (hm h).1 (by omega)
    have hs : s = 7 := by omega
    rw [hs] at hM
    refine wp_exit ?_
    refine then_exit ?_
    refine then_exit ?_
    refine block_exit ?_
    refine then_n ?_
    refine wp_seq ?_
    refine wp_region_lit ?_
    refine wl (d_loadA Try.underlying26 rfl sz26 rfl (hM.at 0 rfl) (cl_size _ _ _)) rfl hF (fun a hF => ?_)
    refine wl0R (ok_storeA (c' := cl .u16 256 (sNTT F)) sz26 rfl rfl (cl_size _ _ _) (cl_one _ _ _) (hM.at 1 rfl) (cl_size _ _ _)) hF ?_
    rintro w a hu hF
    have hM : Mem w0 w [(b1, cl .u16 256 (sNTT F), 26), (b2, cl .u16 256 (sNTT F), 26), (b3, cl .u32 128 zt, 54)] := hM.upd 1 rfl hu
    refine wl_nil ?_
    have hF := hF.sub (L' := [(1, (Value.pointer (some ⟨b1, 0, none⟩))), (2, (Value.pointer (some ⟨b2, 0, none⟩))), (3, (Value.pointer (some ⟨b3, 0, none⟩))), (4, (Value.int .i64 ((mOf s : Nat) : Int))), (5, (Value.int .i64 ((hOf s : Nat) : Int))), (14, (Value.bool (decide (2 ≤ ((hOf s : Nat) : Int)))))]) ⟨rfl, rfl, rfl, rfl, rfl, rfl, trivial⟩
    refine then_n ?_
    refine wp_ret ?_
    refine body_ret hF (results1 Try.results12 (RV.cellA Try.underlying26 rfl sz26 hF rfl (hM.at 1 rfl) (cl_size _ _ _))) ?_
    exact ⟨rfl, hM.below⟩

set_option maxRecDepth 100000 in
theorem Inverse_calls {F : Nat → Int} (hf : U16 F) (w0 : World) : Calls Try.prog 14 (List.toArray [.agg (cl .u16 256 F)]) w0 (Ret fun v w' => v = .agg (cl .u16 256 (sInv F)) ∧ Gr w0 w') := by
  refine calls_of Try.func14 rfl Try.ntmps14 rfl fun a hF => ?_
  have hM := Mem.start w0
  have hF := hF.sub (L' := [(0, (Value.agg (cl .u16 256 F)))]) ⟨rfl, trivial⟩
  refine wp_seq ?_
  refine wp_region_lit ?_
  refine wlR (ok_box rfl) rfl hF ?_
  rintro _ w a ⟨b1, rfl, hnb_⟩ hF
  have hM : Mem w0 w [(b1, cl .u16 256 F, 26)] := hM.alloc hnb_
  refine wlR (ok_alloc z26) rfl hF ?_
  rintro _ w a ⟨b2, rfl, hnb_⟩ hF
  have hM : Mem w0 w [(b1, cl .u16 256 F, 26), (b2, cl .u16 256 fun _ => 0, 26)] := hM.alloc hnb_
  refine wl_nil ?_
  have hF := hF.sub (L' := [(0, (Value.agg (cl .u16 256 F))), (1, (Value.pointer (some ⟨b1, 0, none⟩))), (2, (Value.pointer (some ⟨b2, 0, none⟩)))]) ⟨rfl, rfl, rfl, trivial⟩
  refine then_n ?_
  refine wp_seq ?_
  refine wp_region_lit ?_
  refine wl (d_loadA Try.underlying26 rfl sz26 rfl (hM.at 0 rfl) (cl_size _ _ _)) rfl hF (fun a hF => ?_)
  refine wl (d_build0 Try.underlying26 (by kernel_rfl) z26) rfl hF (fun a hF => ?_)
  refine wlR (ok_call c17 rfl (Add_calls hf (fun _ _ => by omega) _)) rfl hF ?_
  rintro _ w a ⟨rfl, hg⟩ hF
  have hM := hM.call hg
  refine wl0R (ok_storeA (c' := cl .u16 256 (sAdd F (fun _ => 0))) sz26 rfl rfl (cl_size _ _ _) (cl_one _ _ _) (hM.at 0 rfl) (cl_size _ _ _)) hF ?_
  rintro w a hu hF
  have hM : Mem w0 w [(b1, cl .u16 256 (sAdd F (fun _ => 0)), 26), (b2, cl .u16 256 fun _ => 0, 26)] := hM.upd 0 rfl hu
  refine wl_nil ?_
  have hF := hF.sub (L' := [(0, (Value.agg (cl .u16 256 F))), (1, (Value.pointer (some ⟨b1, 0, none⟩))), (2, (Value.pointer (some ⟨b2, 0, none⟩)))]) ⟨rfl, rfl, rfl, trivial⟩
  refine then_n ?_
  refine wp_seq ?_
  refine wp_region_lit ?_
  refine wlR (ok_call c35 rfl (zetas_calls _)) rfl hF ?_
  rintro _ w a ⟨rfl, hg⟩ hF
  have hM := hM.call hg
  refine wlR (ok_alloc z54) rfl hF ?_
  rintro _ w a ⟨b3, rfl, hnb_⟩ hF
  have hM : Mem w0 w [(b1, cl .u16 256 (sAdd F (fun _ => 0)), 26), (b2, cl .u16 256 fun _ => 0, 26), (b3, cl .u32 128 fun _ => 0, 54)] := hM.alloc hnb_
  refine wl0R (ok_storeA (c' := cl .u32 128 zt) sz54 rfl rfl (cl_size _ _ _) (cl_one _ _ _) (hM.at 2 rfl) (cl_size _ _ _)) hF ?_
  rintro w a hu hF
  have hM : Mem w0 w [(b1, cl .u16 256 (sAdd F (fun _ => 0)), 26), (b2, cl .u16 256 fun _ => 0, 26), (b3, cl .u32 128 zt, 54)] := hM.upd 2 rfl hu
  refine wl (d_assign rfl) rfl hF (fun a hF => ?_)
  refine wl_nil ?_
  have hF := hF.sub (L' := [(0, (Value.agg (cl .u16 256 F))), (1, (Value.pointer (some ⟨b1, 0, none⟩))), (2, (Value.pointer (some ⟨b2, 0, none⟩))), (3, (Value.pointer (some ⟨b3, 0, none⟩))), (4, (Value.int .i64 127))]) ⟨rfl, rfl, rfl, rfl, rfl, trivial⟩
  refine then_n ?_
  refine wp_seq ?_
  refine wp_seq ?_
  refine wp_region_lit ?_
  refine wl (d_assign rfl) rfl hF (fun a hF => ?_)
  refine wl_nil ?_
  have hF := hF.sub (L' := [(0, (Value.agg (cl .u16 256 F))), (1, (Value.pointer (some ⟨b1, 0, none⟩))), (2, (Value.pointer (some ⟨b2, 0, none⟩))), (3, (Value.pointer (some ⟨b3, 0, none⟩))), (4, (Value.int .i64 127)), (5, (Value.int .i64 2))]) ⟨rfl, rfl, rfl, rfl, rfl, rfl, trivial⟩
  refine then_n ?_
  refine wp_block ?_
  refine wp_loop_k (fun fu_ a w => ∃ s : Nat, fu_ = 7 - s ∧ (s ≤ 7) ∧ Frm a 80 [(1, (Value.pointer (some ⟨b1, 0, none⟩))), (2, (Value.pointer (some ⟨b2, 0, none⟩))), (3, (Value.pointer (some ⟨b3, 0, none⟩))), (4, (Value.int .i64 ((kI s : Nat) : Int))), (5, (Value.int .i64 ((gI s : Nat) : Int)))] ∧ Mem w0 w [(b1, cl .u16 256 (ilys s (rd F)), 26), (b2, cl .u16 256 fun _ => 0, 26), (b3, cl .u32 128 zt, 54)]) _ ⟨0, rfl, (by omega), hF.sub ⟨rfl, rfl, rfl, rfl, rfl, trivial⟩, ?_⟩ ?_
  · rw [sAdd_zero] at hM; exact hM
  rintro _ a w ⟨s, rfl, hl1_0, hF, hM⟩
  refine wp_seq ?_
  refine wp_seq ?_
  refine wp_region_lit ?_
  refine wl (d_move rfl) rfl hF (fun a hF => ?_)
  refine wl (d_leq rfl rfl) rfl hF (fun a hF => ?_)
  refine wl_nil ?_
  have hF := hF.sub (L' := [(1, (Value.pointer (some ⟨b1, 0, none⟩))), (2, (Value.pointer (some ⟨b2, 0, none⟩))), (3, (Value.pointer (some ⟨b3, 0, none⟩))), (4, (Value.int .i64 ((kI s : Nat) : Int))), (5, (Value.int .i64 ((gI s : Nat) : Int))), (15, (Value.bool (decide (((gI s : Nat) : Int) ≤ 128))))]) ⟨rfl, rfl, rfl, rfl, rfl, rfl, trivial⟩
  refine then_n ?_
  refine wp_if hF rfl (fun h => ?_) (fun h => ?_)
  · have h1 := of_decide_eq_true h
    clear h
    have hs7 : s ≠ 7 := by intro e; rw [e] at h1; exact absurd h1 (by decide)
    have hs6 : s ≤ 6 := by omega
    obtain ⟨hh2, hhm, hhs, hks, hks2, hm1, hm64, hh128⟩ := im hs6
    refine wp_skip ?_
    refine then_n ?_
    refine wp_seq ?_
    refine wp_block ?_
    refine wp_seq ?_
    refine wp_region_lit ?_
    refine wl (d_assign rfl) rfl hF (fun a hF => ?_)
    refine wl_nil ?_
    have hF := hF.sub (L' := [(1, (Value.pointer (some ⟨b1, 0, none⟩))), (2, (Value.pointer (some ⟨b2, 0, none⟩))), (3, (Value.pointer (some ⟨b3, 0, none⟩))), (4, (Value.int .i64 ((kI s : Nat) : Int))), (5, (Value.int .i64 ((gI s : Nat) : Int))), (6, (Value.int .i64 0)), (15, (Value.bool (decide (((gI s : Nat) : Int) ≤ 128))))]) ⟨rfl, rfl, rfl, rfl, rfl, rfl, rfl, trivial⟩
    refine then_n ?_
    refine wp_block ?_
    rw [show kI s = 2 * nI s - 1 - 0 by omega] at hF
    refine wp_loop_k (fun fu_ a w => ∃ b p : Nat, fu_ = nI s - b ∧ (p = gI s * b) ∧ (b ≤ nI s) ∧ Frm a 80 [(1, (Value.pointer (some ⟨b1, 0, none⟩))), (2, (Value.pointer (some ⟨b2, 0, none⟩))), (3, (Value.pointer (some ⟨b3, 0, none⟩))), (4, (Value.int .i64 ((2 * nI s - 1 - b : Nat) : Int))), (5, (Value.int .i64 ((gI s : Nat) : Int))), (6, (Value.int .i64 ((2 * p : Nat) : Int)))] ∧ Mem w0 w [(b1, cl .u16 256 (to (2 * p) (ilay (gI s) (nI s) (ilys s (rd F))) (ilys s (rd F))), 26), (b2, cl .u16 256 fun _ => 0, 26), (b3, cl .u32 128 zt, 54)]) _ ⟨0, 0, rfl, (by rw [Nat.mul_zero]), (by omega), hF.sub ⟨rfl, rfl, rfl, rfl, rfl, rfl, trivial⟩, ?_⟩ ?_
    · rw [Nat.mul_zero, to_zero]; exact hM
    rintro _ a w ⟨b, p, rfl, hl2_0, hl2_1, hF, hM⟩
    refine wp_seq ?_
    refine wp_seq ?_
    refine wp_region_lit ?_
    refine wl (d_move rfl) rfl hF (fun a hF => ?_)
    refine wl (d_lss rfl rfl) rfl hF (fun a hF => ?_)
    refine wl_nil ?_
    have hF := hF.sub (L' := [(1, (Value.pointer (some ⟨b1, 0, none⟩))), (2, (Value.pointer (some ⟨b2, 0, none⟩))), (3, (Value.pointer (some ⟨b3, 0, none⟩))), (4, (Value.int .i64 ((2 * nI s - 1 - b : Nat) : Int))), (5, (Value.int .i64 ((gI s : Nat) : Int))), (6, (Value.int .i64 ((2 * p : Nat) : Int))), (19, (Value.bool (decide (((2 * p : Nat) : Int) < 256))))]) ⟨rfl, rfl, rfl, rfl, rfl, rfl, rfl, trivial⟩
    refine then_n ?_
    refine wp_if hF rfl (fun h => ?_) (fun h => ?_)
    · have h2 := of_decide_eq_true h
      clear h
      have hb := blk_lt hhm hl2_0 (by omega)
      have hph := blk_le hhm hl2_0 hb
      refine wp_skip ?_
      refine then_n ?_
      refine wp_seq ?_
      refine wp_block ?_
      refine wp_seq ?_
      refine wp_seq ?_
      refine wp_region_lit ?_
      refine wl (d_move rfl) rfl hF (fun a hF => ?_)
      refine wl (d_assign rfl) rfl hF (fun a hF => ?_)
      refine wl_nil ?_
      have hF := hF.sub (L' := [(1, (Value.pointer (some ⟨b1, 0, none⟩))), (2, (Value.pointer (some ⟨b2, 0, none⟩))), (3, (Value.pointer (some ⟨b3, 0, none⟩))), (4, (Value.int .i64 ((2 * nI s - 1 - b : Nat) : Int))), (5, (Value.int .i64 ((gI s : Nat) : Int))), (6, (Value.int .i64 ((2 * p : Nat) : Int))), (7, (Value.int .i64 ((2 * p : Nat) : Int))), (19, (Value.bool (decide (((2 * p : Nat) : Int) < 256))))]) ⟨rfl, rfl, rfl, rfl, rfl, rfl, rfl, rfl, trivial⟩
      refine then_n ?_
      refine wp_block ?_
      refine wp_loop_k (fun fu_ a w => ∃ t : Nat, fu_ = gI s - t ∧ (t ≤ gI s) ∧ Frm a 80 [(1, (Value.pointer (some ⟨b1, 0, none⟩))), (2, (Value.pointer (some ⟨b2, 0, none⟩))), (3, (Value.pointer (some ⟨b3, 0, none⟩))), (4, (Value.int .i64 ((2 * nI s - 1 - b : Nat) : Int))), (5, (Value.int .i64 ((gI s : Nat) : Int))), (6, (Value.int .i64 ((2 * p : Nat) : Int))), (7, (Value.int .i64 ((2 * p + t : Nat) : Int)))] ∧ Mem w0 w [(b1, cl .u16 256 (inn (2 * p) t (gI s) (ilay (gI s) (nI s) (ilys s (rd F))) (to (2 * p) (ilay (gI s) (nI s) (ilys s (rd F))) (ilys s (rd F)))), 26), (b2, cl .u16 256 fun _ => 0, 26), (b3, cl .u32 128 zt, 54)]) _ ⟨0, rfl, (by omega), hF.sub ⟨rfl, rfl, rfl, rfl, rfl, rfl, rfl, trivial⟩, ?_⟩ ?_
      · rw [inn_zero, show to (2 * p) (ilay (gI s) (nI s) (ilys s (rd F))) (to (2 * p) (ilay (gI s) (nI s) (ilys s (rd F))) (ilys s (rd F))) = to (2 * p) (ilay (gI s) (nI s) (ilys s (rd F))) (ilys s (rd F)) from by funext i; simp only [to]; split <;> simp_all]; exact hM
      rintro _ a w ⟨t, rfl, hl3_0, hF, hM⟩
      refine wp_seq ?_
      refine wp_seq ?_
      refine wp_region_lit ?_
      refine wl (d_move rfl) rfl hF (fun a hF => ?_)
      refine wl (d_move rfl) rfl hF (fun a hF => ?_)
      refine wl (d_move rfl) rfl hF (fun a hF => ?_)
      refine wl (d_add rfl rfl (wrap_i64 (by omega) (by omega))) rfl hF (fun a hF => ?_)
      refine wl (d_lss rfl rfl) rfl hF (fun a hF => ?_)
      refine wl_nil ?_
      have hF := hF.sub (L' := [(1, (Value.pointer (some ⟨b1, 0, none⟩))), (2, (Value.pointer (some ⟨b2, 0, none⟩))), (3, (Value.pointer (some ⟨b3, 0, none⟩))), (4, (Value.int .i64 ((2 * nI s - 1 - b : Nat) : Int))), (5, (Value.int .i64 ((gI s : Nat) : Int))), (6, (Value.int .i64 ((2 * p : Nat) : Int))), (7, (Value.int .i64 ((2 * p + t : Nat) : Int))), (29, (Value.bool (decide (((2 * p + t : Nat) : Int) < (((2 * p : Nat) : Int) + ((gI s : Nat) : Int))))))]) ⟨rfl, rfl, rfl, rfl, rfl, rfl, rfl, rfl, trivial⟩
      refine then_n ?_
      refine wp_if hF rfl (fun h => ?_) (fun h => ?_)
      · have h3 := of_decide_eq_true h
        clear h
        have eL : to (2 * p) (ilay (gI s) (nI s) (ilys s (rd F))) (ilys s (rd F)) (2 * p + t) = (ilys s (rd F)) (2 * p + t) := to_ge _ _ (by omega)
        have eH : to (2 * p) (ilay (gI s) (nI s) (ilys s (rd F))) (ilys s (rd F)) (2 * p + t + gI s) = (ilys s (rd F)) (2 * p + t + gI s) := to_ge _ _ (by omega)
        have bL := ilys_red (rd_red F) s (2 * p + t) (by omega)
        have bH := ilys_red (rd_red F) s (2 * p + t + gI s) (by omega)
        have bz := zt_b (2 * nI s - 1 - b)
        have bm := mulc bz (y := (ilys s (rd F)) (2 * p + t + gI s) + 3329 - (ilys s (rd F)) (2 * p + t)) (by omega)
        have vL := ilay_lo (m := nI s) (ilys s (rd F)) hl2_0 (show t < gI s by omega)
        have vH := ilay_hi (m := nI s) (ilys s (rd F)) hl2_0 (show t < gI s by omega)
        refine wp_skip ?_
        refine then_n ?_
        refine wp_seq ?_
        refine wp_block ?_
        refine wp_seq ?_
        refine wp_region_lit ?_
        refine wl (d_move rfl) rfl hF (fun a hF => ?_)
        refine wl (d_ixA0 (j := 2 * p + t) Try.underlying26 sz24 rfl rfl rfl (by omega)) rfl hF (fun a hF => ?_)
        refine wl (d_load1 Try.underlying24 rfl rfl (hM.cell 0 rfl (by rw [cl_get (by omega), inn_lo _ _ (by omega), eL]))) rfl hF (fun a hF => ?_)
        refine wl (d_conv Try.underlying24 Try.underlying53 rfl (wrap_u32 (by omega) (by omega))) rfl hF (fun a hF => ?_)
        refine wl (d_assign rfl) rfl hF (fun a hF => ?_)
        refine wl_nil ?_
        have hF := hF.sub (L' := [(1, (Value.pointer (some ⟨b1, 0, none⟩))), (2, (Value.pointer (some ⟨b2, 0, none⟩))), (3, (Value.pointer (some ⟨b3, 0, none⟩))), (4, (Value.int .i64 ((2 * nI s - 1 - b : Nat) : Int))), (5, (Value.int .i64 ((gI s : Nat) : Int))), (6, (Value.int .i64 ((2 * p : Nat) : Int))), (7, (Value.int .i64 ((2 * p + t : Nat) : Int))), (8, (Value.int .u32 ((ilys s (rd F)) (2 * p + t)))), (29, (Value.bool (decide (((2 * p + t : Nat) : Int) < (((2 * p : Nat) : Int) + ((gI s : Nat) : Int))))))]) ⟨rfl, rfl, rfl, rfl, rfl, rfl, rfl, rfl, rfl, trivial⟩
        refine then_n ?_
        refine wp_seq ?_
        refine wp_region_lit ?_
        refine wl (d_move rfl) rfl hF (fun a hF => ?_)
        refine wl (d_move rfl) rfl hF (fun a hF => ?_)
        refine wl (d_move rfl) rfl hF (fun a hF => ?_)
        refine wl (d_move rfl) rfl hF (fun a hF => ?_)
        refine wl (d_add rfl rfl (wrap_i64 (by omega) (by omega))) rfl hF (fun a hF => ?_)
        refine wl (d_ixA0 (j := 2 * p + t + gI s) Try.underlying26 sz24 rfl rfl (by omega) (by omega)) rfl hF (fun a hF => ?_)
        refine wl (d_load1 Try.underlying24 rfl rfl (hM.cell 0 rfl (by rw [cl_get (by omega), inn_hi, eH]))) rfl hF (fun a hF => ?_)
        refine wl (d_conv Try.underlying24 Try.underlying53 rfl (wrap_u32 (by omega) (by omega))) rfl hF (fun a hF => ?_)
        refine wl (d_add rfl rfl (wrap_u32 (by omega) (by omega))) rfl hF (fun a hF => ?_)
        refine wlR (ok_call c36 rfl (mod_calls _ (by omega) (by omega) _)) rfl hF ?_
        rintro _ w a ⟨rfl, hg⟩ hF
        have hM := hM.call hg
        refine wl (d_ixA0 (j := 2 * p + t) Try.underlying26 sz24 rfl rfl rfl (by omega)) rfl hF (fun a hF => ?_)
        refine wl0R (ok_store1 (v := (Value.int .u16 (((ilys s (rd F)) (2 * p + t) + (ilys s (rd F)) (2 * p + t + gI s)) % 3329))) sz24 rfl rfl rfl (hM.at 0 rfl) (by rw [cl_size]; omega)) hF ?_
        rintro w a hu hF
        rw [cl_set] at hu
        have hM : Mem w0 w [(b1, cl .u16 256 (upd (inn (2 * p) t (gI s) (ilay (gI s) (nI s) (ilys s (rd F))) (to (2 * p) (ilay (gI s) (nI s) (ilys s (rd F))) (ilys s (rd F)))) (2 * p + t) (((ilys s (rd F)) (2 * p + t) + (ilys s (rd F)) (2 * p + t + gI s)) % 3329)), 26), (b2, cl .u16 256 fun _ => 0, 26), (b3, cl .u32 128 zt, 54)] := hM.upd 0 rfl hu
        refine wl_nil ?_
        have hF := hF.sub (L' := [(1, (Value.pointer (some ⟨b1, 0, none⟩))), (2, (Value.pointer (some ⟨b2, 0, none⟩))), (3, (Value.pointer (some ⟨b3, 0, none⟩))), (4, (Value.int .i64 ((2 * nI s - 1 - b : Nat) : Int))), (5, (Value.int .i64 ((gI s : Nat) : Int))), (6, (Value.int .i64 ((2 * p : Nat) : Int))), (7, (Value.int .i64 ((2 * p + t : Nat) : Int))), (8, (Value.int .u32 ((ilys s (rd F)) (2 * p + t)))), (29, (Value.bool (decide (((2 * p + t : Nat) : Int) < (((2 * p : Nat) : Int) + ((gI s : Nat) : Int))))))]) ⟨rfl, rfl, rfl, rfl, rfl, rfl, rfl, rfl, rfl, trivial⟩
        refine then_n ?_
        refine region_plan Tt mo (fun ph_ w => Mem w0 w (([[(b1, cl .u16 256 (upd (inn (2 * p) t (gI s) (ilay (gI s) (nI s) (ilys s (rd F))) (to (2 * p) (ilay (gI s) (nI s) (ilys s (rd F))) (ilys s (rd F)))) (2 * p + t) (((ilys s (rd F)) (2 * p + t) + (ilys s (rd F)) (2 * p + t + gI s)) % 3329)), 26), (b2, cl .u16 256 fun _ => 0, 26), (b3, cl .u32 128 zt, 54)], [(b1, cl .u16 256 (upd (upd (inn (2 * p) t (gI s) (ilay (gI s) (nI s) (ilys s (rd F))) (to (2 * p) (ilay (gI s) (nI s) (ilys s (rd F))) (ilys s (rd F)))) (2 * p + t) (((ilys s (rd F)) (2 * p + t) + (ilys s (rd F)) (2 * p + t + gI s)) % 3329)) (2 * p + t + gI s) ((zt (2 * nI s - 1 - b) * (((ilys s (rd F)) (2 * p + t + gI s) + 3329) - (ilys s (rd F)) (2 * p + t))) % 3329)), 26), (b2, cl .u16 256 fun _ => 0, 26), (b3, cl .u32 128 zt, 54)]] : List (List Blk)).getD ph_ [])) [18] (rows := [⟨[], [(7, (Value.int .i64 ((2 * p + t : Nat) : Int)))], [0], .val (Value.int .i64 ((2 * p + t : Nat) : Int))⟩, ⟨[], [(5, (Value.int .i64 ((gI s : Nat) : Int)))], [0], .val (Value.int .i64 ((gI s : Nat) : Int))⟩, ⟨[(0, 47), (1, 48)], [], [0], .val (Value.int .i64 (((2 * p + t : Nat) : Int) + ((gI s : Nat) : Int)))⟩, ⟨[], [(4, (Value.int .i64 ((2 * nI s - 1 - b : Nat) : Int)))], [0], .val (Value.int .i64 ((2 * nI s - 1 - b : Nat) : Int))⟩, ⟨[(3, 50)], [(3, (Value.pointer (some ⟨b3, 0, none⟩)))], [0], .val (Value.pointer (some ⟨b3, 2 * nI s - 1 - b, none⟩))⟩, ⟨[(4, 51)], [], [0], .val (Value.int .u32 (zt (2 * nI s - 1 - b)))⟩, ⟨[], [(7, (Value.int .i64 ((2 * p + t : Nat) : Int)))], [0], .val (Value.int .i64 ((2 * p + t : Nat) : Int))⟩, ⟨[], [(5, (Value.int .i64 ((gI s : Nat) : Int)))], [0], .val (Value.int .i64 ((gI s : Nat) : Int))⟩, ⟨[(6, 53), (7, 54)], [], [0], .val (Value.int .i64 (((2 * p + t : Nat) : Int) + ((gI s : Nat) : Int)))⟩, ⟨[(8, 55)], [(1, (Value.pointer (some ⟨b1, 0, none⟩)))], [0], .val (Value.pointer (some ⟨b1, 2 * p + t + gI s, none⟩))⟩, ⟨[(9, 56)], [], [0], .val (Value.int .u16 ((ilys s (rd F)) (2 * p + t + gI s)))⟩, ⟨[(10, 57)], [], [0], .val (Value.int .u32 ((ilys s (rd F)) (2 * p + t + gI s)))⟩, ⟨[(11, 58)], [], [0], .val (Value.int .u32 ((ilys s (rd F)) (2 * p + t + gI s) + 3329))⟩, ⟨[], [(8, (Value.int .u32 ((ilys s (rd F)) (2 * p + t))))], [0], .val (Value.int .u32 ((ilys s (rd F)) (2 * p + t)))⟩, ⟨[(12, 59), (13, 60)], [], [0], .val (Value.int .u32 (((ilys s (rd F)) (2 * p + t + gI s) + 3329) - (ilys s (rd F)) (2 * p + t)))⟩, ⟨[(5, 52), (14, 61)], [], [0], .val (Value.int .u32 (zt (2 * nI s - 1 - b) * (((ilys s (rd F)) (2 * p + t + gI s) + 3329) - (ilys s (rd F)) (2 * p + t))))⟩, ⟨[(15, 62)], [], [0], .val (Value.int .u16 ((zt (2 * nI s - 1 - b) * (((ilys s (rd F)) (2 * p + t + gI s) + 3329) - (ilys s (rd F)) (2 * p + t))) % 3329))⟩, ⟨[(2, 49)], [(1, (Value.pointer (some ⟨b1, 0, none⟩)))], [0], .val (Value.pointer (some ⟨b1, 2 * p + t + gI s, none⟩))⟩, ⟨[(17, 64), (16, 63)], [], [0], .rel (fun _ _ => True) (fun _ _ _ _ _ => trivial)⟩]) (by kernel_rfl) hF hM.drew ?_ ?_
        · refine ⟨?_, ?_, ?_, ?_, ?_, ?_, ?_, ?_, ?_, ?_, ?_, ?_, ?_, ?_, ?_, ?_, ?_, ?_, ?_, trivial⟩
          · exact ⟨⟨rfl, trivial⟩, fun ph_ _ vs w hW _ => Det.ob hW (d_move rfl)⟩
          · exact ⟨⟨rfl, trivial⟩, fun ph_ _ vs w hW _ => Det.ob hW (d_move rfl)⟩
          · exact ⟨trivial, fun ph_ _ vs w hW _ => Det.ob hW (d_add rfl rfl (wrap_i64 (by omega) (by omega)))⟩
          · exact ⟨⟨rfl, trivial⟩, fun ph_ _ vs w hW _ => Det.ob hW (d_move rfl)⟩
          · exact ⟨⟨rfl, trivial⟩, fun ph_ _ vs w hW _ => Det.ob hW (d_ixA0 (j := 2 * nI s - 1 - b) Try.underlying54 sz53 rfl rfl rfl (by omega))⟩
          · refine ⟨trivial, fun ph_ hp_ vs w hW _ => ?_⟩
            obtain rfl := memN_one hp_
            have hM : Mem w0 w [(b1, cl .u16 256 (upd (inn (2 * p) t (gI s) (ilay (gI s) (nI s) (ilys s (rd F))) (to (2 * p) (ilay (gI s) (nI s) (ilys s (rd F))) (ilys s (rd F)))) (2 * p + t) (((ilys s (rd F)) (2 * p + t) + (ilys s (rd F)) (2 * p + t + gI s)) % 3329)), 26), (b2, cl .u16 256 fun _ => 0, 26), (b3, cl .u32 128 zt, 54)] := hW
            exact Det.ob hW (d_load1 Try.underlying53 rfl rfl (hM.cell 2 rfl (cl_get (by omega))))
          · exact ⟨⟨rfl, trivial⟩, fun ph_ _ vs w hW _ => Det.ob hW (d_move rfl)⟩
          · exact ⟨⟨rfl, trivial⟩, fun ph_ _ vs w hW _ => Det.ob hW (d_move rfl)⟩
          · exact ⟨trivial, fun ph_ _ vs w hW _ => Det.ob hW (d_add rfl rfl (wrap_i64 (by omega) (by omega)))⟩
          · exact ⟨⟨rfl, trivial⟩, fun ph_ _ vs w hW _ => Det.ob hW (d_ixA0 (j := 2 * p + t + gI s) Try.underlying26 sz24 rfl rfl (by omega) (by omega))⟩
          · refine ⟨trivial, fun ph_ hp_ vs w hW _ => ?_⟩
            obtain rfl := memN_one hp_
            have hM : Mem w0 w [(b1, cl .u16 256 (upd (inn (2 * p) t (gI s) (ilay (gI s) (nI s) (ilys s (rd F))) (to (2 * p) (ilay (gI s) (nI s) (ilys s (rd F))) (ilys s (rd F)))) (2 * p + t) (((ilys s (rd F)) (2 * p + t) + (ilys s (rd F)) (2 * p + t + gI s)) % 3329)), 26), (b2, cl .u16 256 fun _ => 0, 26), (b3, cl .u32 128 zt, 54)] := hW
            exact Det.ob hW (d_load1 Try.underlying24 rfl rfl (hM.cell 0 rfl (by rw [cl_get (by omega), inn_hi' _ _ (by omega), eH])))
          · exact ⟨trivial, fun ph_ _ vs w hW _ => Det.ob hW (d_conv Try.underlying24 Try.underlying53 rfl (wrap_u32 (by omega) (by omega)))⟩
          · exact ⟨trivial, fun ph_ _ vs w hW _ => Det.ob hW (d_add rfl rfl (wrap_u32 (by omega) (by omega)))⟩
          · exact ⟨⟨rfl, trivial⟩, fun ph_ _ vs w hW _ => Det.ob hW (d_move rfl)⟩
          · exact ⟨trivial, fun ph_ _ vs w hW _ => Det.ob hW (d_sub rfl rfl (wrap_u32 (by omega) (by omega)))⟩
          · exact ⟨trivial, fun ph_ _ vs w hW _ => Det.ob hW (d_mul rfl rfl (wrap_u32 (by omega) (by omega)))⟩
          · exact ⟨trivial, fun ph_ _ vs w hW _ => Ok1.obc (fun w' g => Mem.call hW g) (ok_call c36 rfl (mod_calls _ (by omega) (by omega) _))⟩
          · exact ⟨⟨rfl, trivial⟩, fun ph_ _ vs w hW _ => Det.ob hW (d_ixA0 (j := 2 * p + t + gI s) Try.underlying26 sz24 rfl rfl (by omega) (by omega))⟩
          · refine ⟨trivial, fun ph_ hp_ vs w hW _ => ?_⟩
            obtain rfl := memN_one hp_
            have hM : Mem w0 w [(b1, cl .u16 256 (upd (inn (2 * p) t (gI s) (ilay (gI s) (nI s) (ilys s (rd F))) (to (2 * p) (ilay (gI s) (nI s) (ilys s (rd F))) (ilys s (rd F)))) (2 * p + t) (((ilys s (rd F)) (2 * p + t) + (ilys s (rd F)) (2 * p + t + gI s)) % 3329)), 26), (b2, cl .u16 256 fun _ => 0, 26), (b3, cl .u32 128 zt, 54)] := hW
            exact Ok1.obs (fun w' hu => by rw [cl_set] at hu; exact hM.upd 0 rfl hu) (ok_store1 (v := (Value.int .u16 ((zt (2 * nI s - 1 - b) * (((ilys s (rd F)) (2 * p + t + gI s) + 3329) - (ilys s (rd F)) (2 * p + t))) % 3329))) sz24 rfl rfl rfl (hM.at 0 rfl) (by rw [cl_size]; omega))
        · intro a w vs hW _ hF
          have hM : Mem w0 w [(b1, cl .u16 256 (upd (upd (inn (2 * p) t (gI s) (ilay (gI s) (nI s) (ilys s (rd F))) (to (2 * p) (ilay (gI s) (nI s) (ilys s (rd F))) (ilys s (rd F)))) (2 * p + t) (((ilys s (rd F)) (2 * p + t) + (ilys s (rd F)) (2 * p + t + gI s)) % 3329)) (2 * p + t + gI s) ((zt (2 * nI s - 1 - b) * (((ilys s (rd F)) (2 * p + t + gI s) + 3329) - (ilys s (rd F)) (2 * p + t))) % 3329)), 26), (b2, cl .u16 256 fun _ => 0, 26), (b3, cl .u32 128 zt, 54)] := hW
          have hF := hF.sub (L' := [(1, (Value.pointer (some ⟨b1, 0, none⟩))), (2, (Value.pointer (some ⟨b2, 0, none⟩))), (3, (Value.pointer (some ⟨b3, 0, none⟩))), (4, (Value.int .i64 ((2 * nI s - 1 - b : Nat) : Int))), (5, (Value.int .i64 ((gI s : Nat) : Int))), (6, (Value.int .i64 ((2 * p : Nat) : Int))), (7, (Value.int .i64 ((2 * p + t : Nat) : Int))), (8, (Value.int .u32 ((ilys s (rd F)) (2 * p + t)))), (29, (Value.bool (decide (((2 * p + t : Nat) : Int) < (((2 * p : Nat) : Int) + ((gI s : Nat) : Int))))))]) ⟨rfl, rfl, rfl, rfl, rfl, rfl, rfl, rfl, rfl, trivial⟩
          refine block_n ?_
          refine then_n ?_
          refine wp_region_lit ?_
          refine wl (d_move rfl) rfl hF (fun a hF => ?_)
          refine wl (d_add rfl rfl (wrap_i64 (by omega) (by omega))) rfl hF (fun a hF => ?_)
          refine wl (d_assign rfl) rfl hF (fun a hF => ?_)
          refine wl_nil ?_
          have hF := hF.sub (L' := [(1, (Value.pointer (some ⟨b1, 0, none⟩))), (2, (Value.pointer (some ⟨b2, 0, none⟩))), (3, (Value.pointer (some ⟨b3, 0, none⟩))), (4, (Value.int .i64 ((2 * nI s - 1 - b : Nat) : Int))), (5, (Value.int .i64 ((gI s : Nat) : Int))), (6, (Value.int .i64 ((2 * p : Nat) : Int))), (7, (Value.int .i64 (((2 * p + t : Nat) : Int) + 1))), (8, (Value.int .u32 ((ilys s (rd F)) (2 * p + t)))), (29, (Value.bool (decide (((2 * p + t : Nat) : Int) < (((2 * p : Nat) : Int) + ((gI s : Nat) : Int))))))]) ⟨rfl, rfl, rfl, rfl, rfl, rfl, rfl, rfl, rfl, trivial⟩
          refine then_n ?_
          refine ⟨_, ?_, t + 1, rfl, (by omega), hF.sub ⟨rfl, rfl, rfl, rfl, rfl, rfl, rfl, trivial⟩, ?_⟩
          · omega
          rw [inn_step (by omega) vL.symm vH.symm] at hM
          exact hM
      · have h3 := of_decide_eq_false h
        clear h
        have ht : t = gI s := by omega
        refine wp_exit ?_
        refine then_exit ?_
        refine then_exit ?_
        refine block_exit ?_
        refine then_n ?_
        refine wp_region_lit ?_
        refine wl (d_move rfl) rfl hF (fun a hF => ?_)
        refine wl (d_sub rfl rfl (wrap_i64 (by omega) (by omega))) rfl hF (fun a hF => ?_)
        refine wl (d_assign rfl) rfl hF (fun a hF => ?_)
        refine wl_nil ?_
        have hF := hF.sub (L' := [(1, (Value.pointer (some ⟨b1, 0, none⟩))), (2, (Value.pointer (some ⟨b2, 0, none⟩))), (3, (Value.pointer (some ⟨b3, 0, none⟩))), (4, (Value.int .i64 (((2 * nI s - 1 - b : Nat) : Int) - 1))), (5, (Value.int .i64 ((gI s : Nat) : Int))), (6, (Value.int .i64 ((2 * p : Nat) : Int))), (7, (Value.int .i64 ((2 * p + t : Nat) : Int))), (29, (Value.bool (decide (((2 * p + t : Nat) : Int) < (((2 * p : Nat) : Int) + ((gI s : Nat) : Int))))))]) ⟨rfl, rfl, rfl, rfl, rfl, rfl, rfl, rfl, trivial⟩
        refine block_n ?_
        refine then_n ?_
        refine wp_region_lit ?_
        refine wl (d_move rfl) rfl hF (fun a hF => ?_)
        refine wl (d_move rfl) rfl hF (fun a hF => ?_)
        refine wl (d_mul rfl rfl (wrap_i64 (by omega) (by omega))) rfl hF (fun a hF => ?_)
        refine wl (d_add rfl rfl (wrap_i64 (by omega) (by omega))) rfl hF (fun a hF => ?_)
        refine wl (d_assign rfl) rfl hF (fun a hF => ?_)
        refine wl_nil ?_
        have hF := hF.sub (L' := [(1, (Value.pointer (some ⟨b1, 0, none⟩))), (2, (Value.pointer (some ⟨b2, 0, none⟩))), (3, (Value.pointer (some ⟨b3, 0, none⟩))), (4, (Value.int .i64 (((2 * nI s - 1 - b : Nat) : Int) - 1))), (5, (Value.int .i64 ((gI s : Nat) : Int))), (6, (Value.int .i64 (((2 * p : Nat) : Int) + (2 * ((gI s : Nat) : Int))))), (7, (Value.int .i64 ((2 * p + t : Nat) : Int))), (29, (Value.bool (decide (((2 * p + t : Nat) : Int) < (((2 * p : Nat) : Int) + ((gI s : Nat) : Int))))))]) ⟨rfl, rfl, rfl, rfl, rfl, rfl, rfl, rfl, trivial⟩
        refine then_n ?_
        have e6 : (((2 * p : Nat) : Int) + 2 * ((gI s : Nat) : Int)) = ((2 * (p + gI s) : Nat) : Int) := by omega
        rw [e6] at hF
        rw [show ((2 * nI s - 1 - b : Nat) : Int) - 1 = ((2 * nI s - 1 - (b + 1) : Nat) : Int) by omega] at hF
        rw [ht, inn_all, show to (2 * p + 2 * gI s) (ilay (gI s) (nI s) (ilys s (rd F))) (to (2 * p) (ilay (gI s) (nI s) (ilys s (rd F))) (ilys s (rd F))) = to (2 * p + 2 * gI s) (ilay (gI s) (nI s) (ilys s (rd F))) (ilys s (rd F)) from by funext i; simp only [to]; split <;> first | rfl | (rw [if_neg (by omega)])] at hM
        refine ⟨_, ?_, b + 1, p + gI s, rfl, (by rw [Nat.mul_succ]; omega), (by omega), hF.sub ⟨rfl, rfl, rfl, rfl, rfl, rfl, trivial⟩, ?_⟩
        · omega
        rw [show 2 * (p + gI s) = 2 * p + 2 * gI s by omega]
        exact hM
    · have h2 := of_decide_eq_false h
      clear h
      have hb := blk_eq hhm hl2_0 (by omega) hl2_1 hh2
      refine wp_exit ?_
      refine then_exit ?_
      refine then_exit ?_
      refine block_exit ?_
      refine block_n ?_
      refine then_n ?_
      refine wp_region_lit ?_
      refine wl (d_move rfl) rfl hF (fun a hF => ?_)
      refine wl (d_mul rfl rfl (wrap_i64 (by omega) (by omega))) rfl hF (fun a hF => ?_)
      refine wl (d_assign rfl) rfl hF (fun a hF => ?_)
      refine wl_nil ?_
      have hF := hF.sub (L' := [(1, (Value.pointer (some ⟨b1, 0, none⟩))), (2, (Value.pointer (some ⟨b2, 0, none⟩))), (3, (Value.pointer (some ⟨b3, 0, none⟩))), (4, (Value.int .i64 ((2 * nI s - 1 - b : Nat) : Int))), (5, (Value.int .i64 (((gI s : Nat) : Int) * 2))), (6, (Value.int .i64 ((2 * p : Nat) : Int))), (19, (Value.bool (decide (((2 * p : Nat) : Int) < 256))))]) ⟨rfl, rfl, rfl, rfl, rfl, rfl, rfl, trivial⟩
      refine then_n ?_
      rw [hb, show 2 * nI s - 1 - nI s = kI (s + 1) by omega] at hF
      rw [show 2 * p = 256 by have := hl2_0; rw [hb] at this; omega, to_all] at hM
      have hF : Frm a 80 [(1, (Value.pointer (some ⟨b1, 0, none⟩))), (2, (Value.pointer (some ⟨b2, 0, none⟩))), (3, (Value.pointer (some ⟨b3, 0, none⟩))), (4, (Value.int .i64 ((kI (s + 1) : Nat) : Int))), (5, (Value.int .i64 ((gI (s + 1) : Nat) : Int)))] := by
        rw [show ((gI (s + 1) : Nat) : Int) = (((gI s : Nat) : Int) * 2) by omega]
        exact hF.sub ⟨rfl, rfl, rfl, rfl, rfl, trivial⟩
      refine ⟨_, ?_, s + 1, rfl, (by omega), hF.sub ⟨rfl, rfl, rfl, rfl, rfl, trivial⟩, ?_⟩
      · omega
      exact hM
  · have h1 := of_decide_eq_false h
    clear h
    have hs : ¬ s ≤ 6 := fun h => absurd (im h).2.2.2.2.2.2.2 (by omega)
    have hs : s = 7 := by omega
    rw [hs] at hM
    refine wp_exit ?_
    refine then_exit ?_
    refine then_exit ?_
    refine block_exit ?_
    refine then_n ?_
    refine wp_seq ?_
    refine wp_seq ?_
    refine wp_region_lit ?_
    refine wl (d_move rfl) rfl hF (fun a hF => ?_)
    refine wl_nil ?_
    have hF := hF.sub (L' := [(1, (Value.pointer (some ⟨b1, 0, none⟩))), (2, (Value.pointer (some ⟨b2, 0, none⟩))), (3, (Value.pointer (some ⟨b3, 0, none⟩))), (4, (Value.int .i64 ((kI s : Nat) : Int))), (5, (Value.int .i64 ((gI s : Nat) : Int))), (15, (Value.bool (decide (((gI s : Nat) : Int) ≤ 128)))), (67, (Value.int .i64 0))]) ⟨rfl, rfl, rfl, rfl, rfl, rfl, rfl, trivial⟩
    refine then_n ?_
    refine wp_block ?_
    refine wp_loop_k (fun fu_ a w => ∃ i : Nat, fu_ = 256 - i ∧ (i ≤ 256) ∧ Frm a 80 [(1, (Value.pointer (some ⟨b1, 0, none⟩))), (2, (Value.pointer (some ⟨b2, 0, none⟩))), (3, (Value.pointer (some ⟨b3, 0, none⟩))), (67, (Value.int .i64 (i : Int)))] ∧ Mem w0 w [(b1, cl .u16 256 (to i (sInv F) (ilys 7 (rd F))), 26), (b2, cl .u16 256 fun _ => 0, 26), (b3, cl .u32 128 zt, 54)]) _ ⟨0, rfl, (by omega), hF.sub ⟨rfl, rfl, rfl, rfl, trivial⟩, ?_⟩ ?_
    · rw [to_zero]; exact hM
    rintro _ a w ⟨i, rfl, hl4_0, hF, hM⟩
    refine wp_seq ?_
    refine wp_region_lit ?_
    refine wl (d_lss rfl rfl) rfl hF (fun a hF => ?_)
    refine wl_nil ?_
    have hF := hF.sub (L' := [(1, (Value.pointer (some ⟨b1, 0, none⟩))), (2, (Value.pointer (some ⟨b2, 0, none⟩))), (3, (Value.pointer (some ⟨b3, 0, none⟩))), (67, (Value.int .i64 (i : Int))), (68, (Value.bool (decide ((i : Int) < 256))))]) ⟨rfl, rfl, rfl, rfl, rfl, trivial⟩
    refine then_n ?_
    refine wp_seq ?_
    refine wp_if hF rfl (fun h => ?_) (fun h => ?_)
    · have hlt := of_decide_eq_true h
      clear h
      have e1 := to_at i (sInv F) (ilys 7 (rd F))
      have bi := ilys_red (rd_red F) 7 i (by omega)
      refine wp_skip ?_
      refine then_n ?_
      refine wp_seq ?_
      refine wp_block ?_
      refine wp_seq ?_
      refine wp_region_lit ?_
      refine wl (d_move rfl) rfl hF (fun a hF => ?_)
      refine wl (d_assign rfl) rfl hF (fun a hF => ?_)
      refine wl_nil ?_
      have hF := hF.sub (L' := [(1, (Value.pointer (some ⟨b1, 0, none⟩))), (2, (Value.pointer (some ⟨b2, 0, none⟩))), (3, (Value.pointer (some ⟨b3, 0, none⟩))), (9, (Value.int .i64 (i : Int))), (67, (Value.int .i64 (i : Int))), (68, (Value.bool (decide ((i : Int) < 256))))]) ⟨rfl, rfl, rfl, rfl, rfl, rfl, trivial⟩
      refine then_n ?_
      refine wp_region_lit ?_
      refine wl (d_move rfl) rfl hF (fun a hF => ?_)
      refine wl (d_move rfl) rfl hF (fun a hF => ?_)
      refine wl (d_ixA0 (j := i) Try.underlying26 sz24 rfl rfl rfl (by omega)) rfl hF (fun a hF => ?_)
      refine wl (d_load1 Try.underlying24 rfl rfl (hM.cell 0 rfl (cl_get (by omega)))) rfl hF (fun a hF => ?_)
      refine wl (d_conv Try.underlying24 Try.underlying53 rfl (wrap_u32 (by omega) (by omega))) rfl hF (fun a hF => ?_)
      refine wl (d_mul rfl rfl (wrap_u32 (by omega) (by omega))) rfl hF (fun a hF => ?_)
      refine wlR (ok_call c36 rfl (mod_calls _ (by omega) (by omega) _)) rfl hF ?_
      rintro _ w a ⟨rfl, hg⟩ hF
      have hM := hM.call hg
      refine wl (d_ixA0 (j := i) Try.underlying26 sz24 rfl rfl rfl (by omega)) rfl hF (fun a hF => ?_)
      refine wl0R (ok_store1 (v := (Value.int .u16 (((to i (sInv F) (ilys 7 (rd F))) i * 3303) % 3329))) sz24 rfl rfl rfl (hM.at 0 rfl) (by rw [cl_size]; omega)) hF ?_
      rintro w a hu hF
      rw [cl_set] at hu
      have hM : Mem w0 w [(b1, cl .u16 256 (upd (to i (sInv F) (ilys 7 (rd F))) i (((to i (sInv F) (ilys 7 (rd F))) i * 3303) % 3329)), 26), (b2, cl .u16 256 fun _ => 0, 26), (b3, cl .u32 128 zt, 54)] := hM.upd 0 rfl hu
      refine wl_nil ?_
      have hF := hF.sub (L' := [(1, (Value.pointer (some ⟨b1, 0, none⟩))), (2, (Value.pointer (some ⟨b2, 0, none⟩))), (3, (Value.pointer (some ⟨b3, 0, none⟩))), (9, (Value.int .i64 (i : Int))), (67, (Value.int .i64 (i : Int))), (68, (Value.bool (decide ((i : Int) < 256))))]) ⟨rfl, rfl, rfl, rfl, rfl, rfl, trivial⟩
      refine block_n ?_
      refine then_n ?_
      refine wp_region_lit ?_
      refine wl (d_add rfl rfl (wrap_i64 (by omega) (by omega))) rfl hF (fun a hF => ?_)
      refine wl (d_move rfl) rfl hF (fun a hF => ?_)
      refine wl_nil ?_
      have hF := hF.sub (L' := [(1, (Value.pointer (some ⟨b1, 0, none⟩))), (2, (Value.pointer (some ⟨b2, 0, none⟩))), (3, (Value.pointer (some ⟨b3, 0, none⟩))), (9, (Value.int .i64 (i : Int))), (67, (Value.int .i64 ((i : Int) + 1))), (68, (Value.bool (decide ((i : Int) < 256))))]) ⟨rfl, rfl, rfl, rfl, rfl, rfl, trivial⟩
      refine then_n ?_
      refine ⟨_, ?_, i + 1, rfl, (by omega), hF.sub ⟨rfl, rfl, rfl, rfl, trivial⟩, ?_⟩
      · omega
      rw [to_step (by rw [e1]; rfl)] at hM
      exact hM
    · have hlt := of_decide_eq_false h
      clear h
      have hi : i = 256 := by omega
      rw [hi, to_all] at hM
      refine wp_exit ?_
      refine then_exit ?_
      refine then_exit ?_
      refine block_exit ?_
      refine then_n ?_
      refine wp_seq ?_
      refine wp_region_lit ?_
      refine wl (d_loadA Try.underlying26 rfl sz26 rfl (hM.at 0 rfl) (cl_size _ _ _)) rfl hF (fun a hF => ?_)
      refine wl0R (ok_storeA (c' := cl .u16 256 (sInv F)) sz26 rfl rfl (cl_size _ _ _) (cl_one _ _ _) (hM.at 1 rfl) (cl_size _ _ _)) hF ?_
      rintro w a hu hF
      have hM : Mem w0 w [(b1, cl .u16 256 (sInv F), 26), (b2, cl .u16 256 (sInv F), 26), (b3, cl .u32 128 zt, 54)] := hM.upd 1 rfl hu
      refine wl_nil ?_
      have hF := hF.sub (L' := [(1, (Value.pointer (some ⟨b1, 0, none⟩))), (2, (Value.pointer (some ⟨b2, 0, none⟩))), (3, (Value.pointer (some ⟨b3, 0, none⟩))), (67, (Value.int .i64 (i : Int))), (68, (Value.bool (decide ((i : Int) < 256))))]) ⟨rfl, rfl, rfl, rfl, rfl, trivial⟩
      refine then_n ?_
      refine wp_ret ?_
      refine body_ret hF (results1 Try.results14 (RV.cellA Try.underlying26 rfl sz26 hF rfl (hM.at 1 rfl) (cl_size _ _ _))) ?_
      exact ⟨rfl, hM.below⟩

set_option maxRecDepth 100000 in
theorem RNTT_calls {F : Nat → Int} (hf : U16 F) (w0 : World) : Calls Try.prog 24 (List.toArray [.agg (cl .u16 256 F)]) w0 (Ret fun v w' => v = .agg (cl .u16 256 (sNTT F)) ∧ Gr w0 w') := by
  refine calls_of Try.func24 rfl Try.ntmps24 rfl fun a hF => ?_
  have hM := Mem.start w0
  have hF := hF.sub (L' := [(0, (Value.agg (cl .u16 256 F)))]) ⟨rfl, trivial⟩
  refine wp_seq ?_
  refine wp_region_lit ?_
  refine wlR (ok_box rfl) rfl hF ?_
  rintro _ w a ⟨b1, rfl, hnb_⟩ hF
  have hM : Mem w0 w [(b1, cl .u16 256 F, 27)] := hM.alloc hnb_
  refine wlR (ok_alloc z27) rfl hF ?_
  rintro _ w a ⟨b2, rfl, hnb_⟩ hF
  have hM : Mem w0 w [(b1, cl .u16 256 F, 27), (b2, cl .u16 256 fun _ => 0, 27)] := hM.alloc hnb_
  refine wl_nil ?_
  have hF := hF.sub (L' := [(0, (Value.agg (cl .u16 256 F))), (1, (Value.pointer (some ⟨b1, 0, none⟩))), (2, (Value.pointer (some ⟨b2, 0, none⟩)))]) ⟨rfl, rfl, rfl, trivial⟩
  refine then_n ?_
  refine wp_seq ?_
  refine wp_region_lit ?_
  refine wl (d_assign rfl) rfl hF (fun a hF => ?_)
  refine wl_nil ?_
  have hF := hF.sub (L' := [(0, (Value.agg (cl .u16 256 F))), (1, (Value.pointer (some ⟨b1, 0, none⟩))), (2, (Value.pointer (some ⟨b2, 0, none⟩))), (3, (Value.int .i64 1))]) ⟨rfl, rfl, rfl, rfl, trivial⟩
  refine then_n ?_
  refine wp_seq ?_
  refine wp_seq ?_
  refine wp_region_lit ?_
  refine wl (d_assign rfl) rfl hF (fun a hF => ?_)
  refine wl_nil ?_
  have hF := hF.sub (L' := [(0, (Value.agg (cl .u16 256 F))), (1, (Value.pointer (some ⟨b1, 0, none⟩))), (2, (Value.pointer (some ⟨b2, 0, none⟩))), (3, (Value.int .i64 1)), (4, (Value.int .i64 128))]) ⟨rfl, rfl, rfl, rfl, rfl, trivial⟩
  refine then_n ?_
  refine wp_block ?_
  refine wp_loop_k (fun fu_ a w => ∃ s : Nat, fu_ = 7 - s ∧ (s ≤ 7) ∧ Frm a 65 [(1, (Value.pointer (some ⟨b1, 0, none⟩))), (2, (Value.pointer (some ⟨b2, 0, none⟩))), (3, (Value.int .i64 ((mOf s : Nat) : Int))), (4, (Value.int .i64 ((hOf s : Nat) : Int)))] ∧ Mem w0 w [(b1, cl .u16 256 (src s F), 27), (b2, cl .u16 256 fun _ => 0, 27)]) _ ⟨0, rfl, (by omega), hF.sub ⟨rfl, rfl, rfl, rfl, trivial⟩, ?_⟩ ?_
  · exact hM
  rintro _ a w ⟨s, rfl, hl1_0, hF, hM⟩
  refine wp_seq ?_
  refine wp_seq ?_
  refine wp_region_lit ?_
  refine wl (d_move rfl) rfl hF (fun a hF => ?_)
  refine wl (d_geq rfl rfl) rfl hF (fun a hF => ?_)
  refine wl_nil ?_
  have hF := hF.sub (L' := [(1, (Value.pointer (some ⟨b1, 0, none⟩))), (2, (Value.pointer (some ⟨b2, 0, none⟩))), (3, (Value.int .i64 ((mOf s : Nat) : Int))), (4, (Value.int .i64 ((hOf s : Nat) : Int))), (11, (Value.bool (decide (2 ≤ ((hOf s : Nat) : Int)))))]) ⟨rfl, rfl, rfl, rfl, rfl, trivial⟩
  refine then_n ?_
  refine wp_if hF rfl (fun h => ?_) (fun h => ?_)
  · have h1 := of_decide_eq_true h
    clear h
    have hs7 : s ≠ 7 := by intro e; rw [e] at h1; exact absurd h1 (by decide)
    have hs6 : s ≤ 6 := by omega
    obtain ⟨hh2, hhm, hhs, hms, hm1, hm64, hh128⟩ := hm hs6
    refine wp_skip ?_
    refine then_n ?_
    refine wp_seq ?_
    refine wp_block ?_
    refine wp_seq ?_
    refine wp_region_lit ?_
    refine wl (d_assign rfl) rfl hF (fun a hF => ?_)
    refine wl_nil ?_
    have hF := hF.sub (L' := [(1, (Value.pointer (some ⟨b1, 0, none⟩))), (2, (Value.pointer (some ⟨b2, 0, none⟩))), (3, (Value.int .i64 ((mOf s : Nat) : Int))), (4, (Value.int .i64 ((hOf s : Nat) : Int))), (5, (Value.int .i64 0)), (11, (Value.bool (decide (2 ≤ ((hOf s : Nat) : Int)))))]) ⟨rfl, rfl, rfl, rfl, rfl, rfl, trivial⟩
    refine then_n ?_
    refine wp_block ?_
    refine wp_loop_k (fun fu_ a w => ∃ b p : Nat, fu_ = mOf s - b ∧ (p = hOf s * b) ∧ (b ≤ mOf s) ∧ Frm a 65 [(1, (Value.pointer (some ⟨b1, 0, none⟩))), (2, (Value.pointer (some ⟨b2, 0, none⟩))), (3, (Value.int .i64 ((mOf s + b : Nat) : Int))), (4, (Value.int .i64 ((hOf s : Nat) : Int))), (5, (Value.int .i64 ((2 * p : Nat) : Int)))] ∧ Mem w0 w [(b1, cl .u16 256 (to (2 * p) (lay (hOf s) (mOf s) (lys s (rd F))) (src s F)), 27), (b2, cl .u16 256 fun _ => 0, 27)]) _ ⟨0, 0, rfl, (by rw [Nat.mul_zero]), (by omega), hF.sub ⟨rfl, rfl, rfl, rfl, rfl, trivial⟩, ?_⟩ ?_
    · rw [Nat.mul_zero, to_zero]; exact hM
    rintro _ a w ⟨b, p, rfl, hl2_0, hl2_1, hF, hM⟩
    refine wp_seq ?_
    refine wp_seq ?_
    refine wp_region_lit ?_
    refine wl (d_move rfl) rfl hF (fun a hF => ?_)
    refine wl (d_lss rfl rfl) rfl hF (fun a hF => ?_)
    refine wl_nil ?_
    have hF := hF.sub (L' := [(1, (Value.pointer (some ⟨b1, 0, none⟩))), (2, (Value.pointer (some ⟨b2, 0, none⟩))), (3, (Value.int .i64 ((mOf s + b : Nat) : Int))), (4, (Value.int .i64 ((hOf s : Nat) : Int))), (5, (Value.int .i64 ((2 * p : Nat) : Int))), (15, (Value.bool (decide (((2 * p : Nat) : Int) < 256))))]) ⟨rfl, rfl, rfl, rfl, rfl, rfl, trivial⟩
    refine then_n ?_
    refine wp_if hF rfl (fun h => ?_) (fun h => ?_)
    · have h2 := of_decide_eq_true h
      clear h
      have hb := blk_lt hhm hl2_0 (by omega)
      have hph := blk_le hhm hl2_0 hb
      refine wp_skip ?_
      refine then_n ?_
      refine wp_seq ?_
      refine wp_block ?_
      refine wp_seq ?_
      refine wp_region_lit ?_
      refine wl (d_move rfl) rfl hF (fun a hF => ?_)
      refine wlR (ok_call c38 rfl (rev_calls (i := (mOf s + b)) (by omega) _)) rfl hF ?_
      rintro _ w a ⟨rfl, hg⟩ hF
      have hM := hM.call hg
      refine wlR (ok_call c37 rfl (zeta_calls (n := rb 7 (mOf s + b)) (by have := rb7_lt (mOf s + b); omega) _)) rfl hF ?_
      rintro _ w a ⟨rfl, hg⟩ hF
      have hM := hM.call hg
      refine wl (d_assign rfl) rfl hF (fun a hF => ?_)
      refine wl_nil ?_
      have hF := hF.sub (L' := [(1, (Value.pointer (some ⟨b1, 0, none⟩))), (2, (Value.pointer (some ⟨b2, 0, none⟩))), (3, (Value.int .i64 ((mOf s + b : Nat) : Int))), (4, (Value.int .i64 ((hOf s : Nat) : Int))), (5, (Value.int .i64 ((2 * p : Nat) : Int))), (6, (Value.int .i64 (zt (mOf s + b)))), (15, (Value.bool (decide (((2 * p : Nat) : Int) < 256))))]) ⟨rfl, rfl, rfl, rfl, rfl, rfl, rfl, trivial⟩
      refine then_n ?_
      refine wp_seq ?_
      refine wp_region_lit ?_
      refine wl (d_move rfl) rfl hF (fun a hF => ?_)
      refine wl (d_add rfl rfl (wrap_i64 (by omega) (by omega))) rfl hF (fun a hF => ?_)
      refine wl (d_assign rfl) rfl hF (fun a hF => ?_)
      refine wl_nil ?_
      have hF := hF.sub (L' := [(1, (Value.pointer (some ⟨b1, 0, none⟩))), (2, (Value.pointer (some ⟨b2, 0, none⟩))), (3, (Value.int .i64 (((mOf s + b : Nat) : Int) + 1))), (4, (Value.int .i64 ((hOf s : Nat) : Int))), (5, (Value.int .i64 ((2 * p : Nat) : Int))), (6, (Value.int .i64 (zt (mOf s + b)))), (15, (Value.bool (decide (((2 * p : Nat) : Int) < 256))))]) ⟨rfl, rfl, rfl, rfl, rfl, rfl, rfl, trivial⟩
      refine then_n ?_
      refine wp_seq ?_
      refine wp_region_lit ?_
      refine wl (d_move rfl) rfl hF (fun a hF => ?_)
      refine wl (d_assign rfl) rfl hF (fun a hF => ?_)
      refine wl_nil ?_
      have hF := hF.sub (L' := [(1, (Value.pointer (some ⟨b1, 0, none⟩))), (2, (Value.pointer (some ⟨b2, 0, none⟩))), (3, (Value.int .i64 (((mOf s + b : Nat) : Int) + 1))), (4, (Value.int .i64 ((hOf s : Nat) : Int))), (5, (Value.int .i64 ((2 * p : Nat) : Int))), (6, (Value.int .i64 (zt (mOf s + b)))), (7, (Value.int .i64 ((2 * p : Nat) : Int))), (15, (Value.bool (decide (((2 * p : Nat) : Int) < 256))))]) ⟨rfl, rfl, rfl, rfl, rfl, rfl, rfl, rfl, trivial⟩
      refine then_n ?_
      refine wp_block ?_
      refine wp_loop_k (fun fu_ a w => ∃ t : Nat, fu_ = hOf s - t ∧ (t ≤ hOf s) ∧ Frm a 65 [(1, (Value.pointer (some ⟨b1, 0, none⟩))), (2, (Value.pointer (some ⟨b2, 0, none⟩))), (3, (Value.int .i64 ((mOf s + (b + 1) : Nat) : Int))), (4, (Value.int .i64 ((hOf s : Nat) : Int))), (5, (Value.int .i64 ((2 * p : Nat) : Int))), (6, (Value.int .i64 (zt (mOf s + b)))), (7, (Value.int .i64 ((2 * p + t : Nat) : Int)))] ∧ Mem w0 w [(b1, cl .u16 256 (inn (2 * p) t (hOf s) (lay (hOf s) (mOf s) (lys s (rd F))) (to (2 * p) (lay (hOf s) (mOf s) (lys s (rd F))) (src s F))), 27), (b2, cl .u16 256 fun _ => 0, 27)]) _ ⟨0, rfl, (by omega), hF.sub ⟨rfl, rfl, rfl, rfl, rfl, rfl, rfl, trivial⟩, ?_⟩ ?_
      · rw [inn_zero, show to (2 * p) (lay (hOf s) (mOf s) (lys s (rd F))) (to (2 * p) (lay (hOf s) (mOf s) (lys s (rd F))) (src s F)) = to (2 * p) (lay (hOf s) (mOf s) (lys s (rd F))) (src s F) from by funext i; simp only [to]; split <;> simp_all]; exact hM
      rintro _ a w ⟨t, rfl, hl3_0, hF, hM⟩
      refine wp_seq ?_
      refine wp_seq ?_
      refine wp_region_lit ?_
      refine wl (d_move rfl) rfl hF (fun a hF => ?_)
      refine wl (d_move rfl) rfl hF (fun a hF => ?_)
      refine wl (d_move rfl) rfl hF (fun a hF => ?_)
      refine wl (d_add rfl rfl (wrap_i64 (by omega) (by omega))) rfl hF (fun a hF => ?_)
      refine wl (d_lss rfl rfl) rfl hF (fun a hF => ?_)
      refine wl_nil ?_
      have hF := hF.sub (L' := [(1, (Value.pointer (some ⟨b1, 0, none⟩))), (2, (Value.pointer (some ⟨b2, 0, none⟩))), (3, (Value.int .i64 ((mOf s + (b + 1) : Nat) : Int))), (4, (Value.int .i64 ((hOf s : Nat) : Int))), (5, (Value.int .i64 ((2 * p : Nat) : Int))), (6, (Value.int .i64 (zt (mOf s + b)))), (7, (Value.int .i64 ((2 * p + t : Nat) : Int))), (30, (Value.bool (decide (((2 * p + t : Nat) : Int) < (((2 * p : Nat) : Int) + ((hOf s : Nat) : Int))))))]) ⟨rfl, rfl, rfl, rfl, rfl, rfl, rfl, rfl, trivial⟩
      refine then_n ?_
      refine wp_if hF rfl (fun h => ?_) (fun h => ?_)
      · have h3 := of_decide_eq_true h
        clear h
        have eL : to (2 * p) (lay (hOf s) (mOf s) (lys s (rd F))) (src s F) (2 * p + t) = (src s F) (2 * p + t) := to_ge _ _ (by omega)
        have eH : to (2 * p) (lay (hOf s) (mOf s) (lys s (rd F))) (src s F) (2 * p + t + hOf s) = (src s F) (2 * p + t + hOf s) := to_ge _ _ (by omega)
        have bL := lys_red (rd_red F) s (2 * p + t) (by omega)
        have bH := lys_red (rd_red F) s (2 * p + t + hOf s) (by omega)
        have bz := zt_b (mOf s + b)
        have bm := mulb' bz (src_b s hf (i := 2 * p + t + hOf s) (by omega))
        have sL := src_b s hf (i := 2 * p + t) (by omega)
        have sH := src_b s hf (i := 2 * p + t + hOf s) (by omega)
        have mL := src_mod s F (i := 2 * p + t) (by omega)
        have mH := src_mod s F (i := 2 * p + t + hOf s) (by omega)
        have vL := lay_lo (m := mOf s) (lys s (rd F)) hl2_0 (show t < hOf s by omega)
        have vH := lay_hi (m := mOf s) (lys s (rd F)) hl2_0 (show t < hOf s by omega)
        refine wp_skip ?_
        refine then_n ?_
        refine wp_seq ?_
        refine wp_block ?_
        refine wp_seq ?_
        refine wp_region_lit ?_
        refine wl (d_move rfl) rfl hF (fun a hF => ?_)
        refine wl (d_move rfl) rfl hF (fun a hF => ?_)
        refine wl (d_move rfl) rfl hF (fun a hF => ?_)
        refine wl (d_add rfl rfl (wrap_i64 (by omega) (by omega))) rfl hF (fun a hF => ?_)
        refine wl (d_ixA0 (j := 2 * p + t + hOf s) Try.underlying27 sz24 rfl rfl (by omega) (by omega)) rfl hF (fun a hF => ?_)
        refine wl (d_load1 Try.underlying24 rfl rfl (hM.cell 0 rfl (by rw [cl_get (by omega), inn_hi, eH]))) rfl hF (fun a hF => ?_)
        refine wl (d_conv Try.underlying24 Try.underlying3 rfl (wrap_i64 (by omega) (by omega))) rfl hF (fun a hF => ?_)
        refine wl (d_mul rfl rfl (wrap_i64 (by omega) (by omega))) rfl hF (fun a hF => ?_)
        refine wl (d_val (d_rem rfl rfl (by omega) (tmod_pos (by omega))) (mul_mod mH)) rfl hF (fun a hF => ?_)
        refine wl (d_assign rfl) rfl hF (fun a hF => ?_)
        refine wl_nil ?_
        have hF := hF.sub (L' := [(1, (Value.pointer (some ⟨b1, 0, none⟩))), (2, (Value.pointer (some ⟨b2, 0, none⟩))), (3, (Value.int .i64 ((mOf s + (b + 1) : Nat) : Int))), (4, (Value.int .i64 ((hOf s : Nat) : Int))), (5, (Value.int .i64 ((2 * p : Nat) : Int))), (6, (Value.int .i64 (zt (mOf s + b)))), (7, (Value.int .i64 ((2 * p + t : Nat) : Int))), (8, (Value.int .i64 (zt (mOf s + b) * (lys s (rd F)) (2 * p + t + hOf s) % 3329))), (30, (Value.bool (decide (((2 * p + t : Nat) : Int) < (((2 * p : Nat) : Int) + ((hOf s : Nat) : Int))))))]) ⟨rfl, rfl, rfl, rfl, rfl, rfl, rfl, rfl, rfl, trivial⟩
        refine then_n ?_
        refine wp_seq ?_
        refine wp_region_lit ?_
        refine wl (d_move rfl) rfl hF (fun a hF => ?_)
        refine wl (d_ixA0 (j := 2 * p + t) Try.underlying27 sz24 rfl rfl rfl (by omega)) rfl hF (fun a hF => ?_)
        refine wl (d_load1 Try.underlying24 rfl rfl (hM.cell 0 rfl (by rw [cl_get (by omega), inn_lo _ _ (by omega), eL]))) rfl hF (fun a hF => ?_)
        refine wl (d_conv Try.underlying24 Try.underlying3 rfl (wrap_i64 (by omega) (by omega))) rfl hF (fun a hF => ?_)
        refine wl (d_val (d_rem rfl rfl (by omega) (tmod_pos (by omega))) mL) rfl hF (fun a hF => ?_)
        refine wl (d_assign rfl) rfl hF (fun a hF => ?_)
        refine wl_nil ?_
        have hF := hF.sub (L' := [(1, (Value.pointer (some ⟨b1, 0, none⟩))), (2, (Value.pointer (some ⟨b2, 0, none⟩))), (3, (Value.int .i64 ((mOf s + (b + 1) : Nat) : Int))), (4, (Value.int .i64 ((hOf s : Nat) : Int))), (5, (Value.int .i64 ((2 * p : Nat) : Int))), (6, (Value.int .i64 (zt (mOf s + b)))), (7, (Value.int .i64 ((2 * p + t : Nat) : Int))), (8, (Value.int .i64 (zt (mOf s + b) * (lys s (rd F)) (2 * p + t + hOf s) % 3329))), (9, (Value.int .i64 ((lys s (rd F)) (2 * p + t)))), (30, (Value.bool (decide (((2 * p + t : Nat) : Int) < (((2 * p : Nat) : Int) + ((hOf s : Nat) : Int))))))]) ⟨rfl, rfl, rfl, rfl, rfl, rfl, rfl, rfl, rfl, rfl, trivial⟩
        refine then_n ?_
        refine wp_seq ?_
        refine wp_region_lit ?_
        refine wl (d_move rfl) rfl hF (fun a hF => ?_)
        refine wl (d_move rfl) rfl hF (fun a hF => ?_)
        refine wl (d_add rfl rfl (wrap_i64 (by omega) (by omega))) rfl hF (fun a hF => ?_)
        refine wl (d_move rfl) rfl hF (fun a hF => ?_)
        refine wl (d_add rfl rfl (wrap_i64 (by omega) (by omega))) rfl hF (fun a hF => ?_)
        refine wl (d_move rfl) rfl hF (fun a hF => ?_)
        refine wl (d_sub rfl rfl (wrap_i64 (by omega) (by omega))) rfl hF (fun a hF => ?_)
        refine wl (d_rem rfl rfl (by omega) (tmod_pos (by omega))) rfl hF (fun a hF => ?_)
        refine wl (d_conv Try.underlying3 Try.underlying24 rfl (wrap_u16 (by omega) (by omega))) rfl hF (fun a hF => ?_)
        refine wl (d_ixA0 (j := 2 * p + t + hOf s) Try.underlying27 sz24 rfl rfl (by omega) (by omega)) rfl hF (fun a hF => ?_)
        refine wl0R (ok_store1 (v := (Value.int .u16 ((((lys s (rd F)) (2 * p + t) + 3329) - (zt (mOf s + b) * (lys s (rd F)) (2 * p + t + hOf s) % 3329)) % 3329))) sz24 rfl rfl rfl (hM.at 0 rfl) (by rw [cl_size]; omega)) hF ?_
        rintro w a hu hF
        rw [cl_set] at hu
        have hM : Mem w0 w [(b1, cl .u16 256 (upd (inn (2 * p) t (hOf s) (lay (hOf s) (mOf s) (lys s (rd F))) (to (2 * p) (lay (hOf s) (mOf s) (lys s (rd F))) (src s F))) (2 * p + t + hOf s) ((((lys s (rd F)) (2 * p + t) + 3329) - (zt (mOf s + b) * (lys s (rd F)) (2 * p + t + hOf s) % 3329)) % 3329)), 27), (b2, cl .u16 256 fun _ => 0, 27)] := hM.upd 0 rfl hu
        refine wl_nil ?_
        have hF := hF.sub (L' := [(1, (Value.pointer (some ⟨b1, 0, none⟩))), (2, (Value.pointer (some ⟨b2, 0, none⟩))), (3, (Value.int .i64 ((mOf s + (b + 1) : Nat) : Int))), (4, (Value.int .i64 ((hOf s : Nat) : Int))), (5, (Value.int .i64 ((2 * p : Nat) : Int))), (6, (Value.int .i64 (zt (mOf s + b)))), (7, (Value.int .i64 ((2 * p + t : Nat) : Int))), (8, (Value.int .i64 (zt (mOf s + b) * (lys s (rd F)) (2 * p + t + hOf s) % 3329))), (9, (Value.int .i64 ((lys s (rd F)) (2 * p + t)))), (30, (Value.bool (decide (((2 * p + t : Nat) : Int) < (((2 * p : Nat) : Int) + ((hOf s : Nat) : Int))))))]) ⟨rfl, rfl, rfl, rfl, rfl, rfl, rfl, rfl, rfl, rfl, trivial⟩
        refine then_n ?_
        refine wp_region_lit ?_
        refine wl (d_move rfl) rfl hF (fun a hF => ?_)
        refine wl (d_move rfl) rfl hF (fun a hF => ?_)
        refine wl (d_move rfl) rfl hF (fun a hF => ?_)
        refine wl (d_add rfl rfl (wrap_i64 (by omega) (by omega))) rfl hF (fun a hF => ?_)
        refine wl (d_rem rfl rfl (by omega) (tmod_pos (by omega))) rfl hF (fun a hF => ?_)
        refine wl (d_conv Try.underlying3 Try.underlying24 rfl (wrap_u16 (by omega) (by omega))) rfl hF (fun a hF => ?_)
        refine wl (d_ixA0 (j := 2 * p + t) Try.underlying27 sz24 rfl rfl rfl (by omega)) rfl hF (fun a hF => ?_)
        refine wl0R (ok_store1 (v := (Value.int .u16 (((lys s (rd F)) (2 * p + t) + (zt (mOf s + b) * (lys s (rd F)) (2 * p + t + hOf s) % 3329)) % 3329))) sz24 rfl rfl rfl (hM.at 0 rfl) (by rw [cl_size]; omega)) hF ?_
        rintro w a hu hF
        rw [cl_set] at hu
        have hM : Mem w0 w [(b1, cl .u16 256 (upd (upd (inn (2 * p) t (hOf s) (lay (hOf s) (mOf s) (lys s (rd F))) (to (2 * p) (lay (hOf s) (mOf s) (lys s (rd F))) (src s F))) (2 * p + t + hOf s) ((((lys s (rd F)) (2 * p + t) + 3329) - (zt (mOf s + b) * (lys s (rd F)) (2 * p + t + hOf s) % 3329)) % 3329)) (2 * p + t) (((lys s (rd F)) (2 * p + t) + (zt (mOf s + b) * (lys s (rd F)) (2 * p + t + hOf s) % 3329)) % 3329)), 27), (b2, cl .u16 256 fun _ => 0, 27)] := hM.upd 0 rfl hu
        refine wl_nil ?_
        have hF := hF.sub (L' := [(1, (Value.pointer (some ⟨b1, 0, none⟩))), (2, (Value.pointer (some ⟨b2, 0, none⟩))), (3, (Value.int .i64 ((mOf s + (b + 1) : Nat) : Int))), (4, (Value.int .i64 ((hOf s : Nat) : Int))), (5, (Value.int .i64 ((2 * p : Nat) : Int))), (6, (Value.int .i64 (zt (mOf s + b)))), (7, (Value.int .i64 ((2 * p + t : Nat) : Int))), (8, (Value.int .i64 (zt (mOf s + b) * (lys s (rd F)) (2 * p + t + hOf s) % 3329))), (9, (Value.int .i64 ((lys s (rd F)) (2 * p + t)))), (30, (Value.bool (decide (((2 * p + t : Nat) : Int) < (((2 * p : Nat) : Int) + ((hOf s : Nat) : Int))))))]) ⟨rfl, rfl, rfl, rfl, rfl, rfl, rfl, rfl, rfl, rfl, trivial⟩
        refine block_n ?_
        refine then_n ?_
        refine wp_region_lit ?_
        refine wl (d_move rfl) rfl hF (fun a hF => ?_)
        refine wl (d_add rfl rfl (wrap_i64 (by omega) (by omega))) rfl hF (fun a hF => ?_)
        refine wl (d_assign rfl) rfl hF (fun a hF => ?_)
        refine wl_nil ?_
        have hF := hF.sub (L' := [(1, (Value.pointer (some ⟨b1, 0, none⟩))), (2, (Value.pointer (some ⟨b2, 0, none⟩))), (3, (Value.int .i64 ((mOf s + (b + 1) : Nat) : Int))), (4, (Value.int .i64 ((hOf s : Nat) : Int))), (5, (Value.int .i64 ((2 * p : Nat) : Int))), (6, (Value.int .i64 (zt (mOf s + b)))), (7, (Value.int .i64 (((2 * p + t : Nat) : Int) + 1))), (8, (Value.int .i64 (zt (mOf s + b) * (lys s (rd F)) (2 * p + t + hOf s) % 3329))), (9, (Value.int .i64 ((lys s (rd F)) (2 * p + t)))), (30, (Value.bool (decide (((2 * p + t : Nat) : Int) < (((2 * p : Nat) : Int) + ((hOf s : Nat) : Int))))))]) ⟨rfl, rfl, rfl, rfl, rfl, rfl, rfl, rfl, rfl, rfl, trivial⟩
        refine then_n ?_
        refine ⟨_, ?_, t + 1, rfl, (by omega), hF.sub ⟨rfl, rfl, rfl, rfl, rfl, rfl, rfl, trivial⟩, ?_⟩
        · omega
        rw [inn_step' (by omega) vL.symm vH.symm] at hM
        exact hM
      · have h3 := of_decide_eq_false h
        clear h
        have ht : t = hOf s := by omega
        refine wp_exit ?_
        refine then_exit ?_
        refine then_exit ?_
        refine block_exit ?_
        refine block_n ?_
        refine then_n ?_
        refine wp_region_lit ?_
        refine wl (d_move rfl) rfl hF (fun a hF => ?_)
        refine wl (d_move rfl) rfl hF (fun a hF => ?_)
        refine wl (d_mul rfl rfl (wrap_i64 (by omega) (by omega))) rfl hF (fun a hF => ?_)
        refine wl (d_add rfl rfl (wrap_i64 (by omega) (by omega))) rfl hF (fun a hF => ?_)
        refine wl (d_assign rfl) rfl hF (fun a hF => ?_)
        refine wl_nil ?_
        have hF := hF.sub (L' := [(1, (Value.pointer (some ⟨b1, 0, none⟩))), (2, (Value.pointer (some ⟨b2, 0, none⟩))), (3, (Value.int .i64 ((mOf s + (b + 1) : Nat) : Int))), (4, (Value.int .i64 ((hOf s : Nat) : Int))), (5, (Value.int .i64 (((2 * p : Nat) : Int) + (2 * ((hOf s : Nat) : Int))))), (6, (Value.int .i64 (zt (mOf s + b)))), (7, (Value.int .i64 ((2 * p + t : Nat) : Int))), (30, (Value.bool (decide (((2 * p + t : Nat) : Int) < (((2 * p : Nat) : Int) + ((hOf s : Nat) : Int))))))]) ⟨rfl, rfl, rfl, rfl, rfl, rfl, rfl, rfl, trivial⟩
        refine then_n ?_
        have e6 : (((2 * p : Nat) : Int) + 2 * ((hOf s : Nat) : Int)) = ((2 * (p + hOf s) : Nat) : Int) := by omega
        rw [e6] at hF
        rw [ht, inn_all, show to (2 * p + 2 * hOf s) (lay (hOf s) (mOf s) (lys s (rd F))) (to (2 * p) (lay (hOf s) (mOf s) (lys s (rd F))) (src s F)) = to (2 * p + 2 * hOf s) (lay (hOf s) (mOf s) (lys s (rd F))) (src s F) from by funext i; simp only [to]; split <;> first | rfl | (rw [if_neg (by omega)])] at hM
        refine ⟨_, ?_, b + 1, p + hOf s, rfl, (by rw [Nat.mul_succ]; omega), (by omega), hF.sub ⟨rfl, rfl, rfl, rfl, rfl, trivial⟩, ?_⟩
        · omega
        rw [show 2 * (p + hOf s) = 2 * p + 2 * hOf s by omega]
        exact hM
    · have h2 := of_decide_eq_false h
      clear h
      have hb := blk_eq hhm hl2_0 (by omega) hl2_1 hh2
      refine wp_exit ?_
      refine then_exit ?_
      refine then_exit ?_
      refine block_exit ?_
      refine block_n ?_
      refine then_n ?_
      refine wp_region_lit ?_
      refine wl (d_move rfl) rfl hF (fun a hF => ?_)
      refine wl (d_quo rfl rfl (by omega) (quo_i64 (by omega) (by omega) (by omega))) rfl hF (fun a hF => ?_)
      refine wl (d_assign rfl) rfl hF (fun a hF => ?_)
      refine wl_nil ?_
      have hF := hF.sub (L' := [(1, (Value.pointer (some ⟨b1, 0, none⟩))), (2, (Value.pointer (some ⟨b2, 0, none⟩))), (3, (Value.int .i64 ((mOf s + b : Nat) : Int))), (4, (Value.int .i64 (((hOf s : Nat) : Int) / 2))), (5, (Value.int .i64 ((2 * p : Nat) : Int))), (15, (Value.bool (decide (((2 * p : Nat) : Int) < 256))))]) ⟨rfl, rfl, rfl, rfl, rfl, rfl, trivial⟩
      refine then_n ?_
      rw [hb, show mOf s + mOf s = mOf (s + 1) by omega] at hF
      rw [show 2 * p = 256 by have := hl2_0; rw [hb] at this; omega, to_all] at hM
      have hF : Frm a 65 [(1, (Value.pointer (some ⟨b1, 0, none⟩))), (2, (Value.pointer (some ⟨b2, 0, none⟩))), (3, (Value.int .i64 ((mOf (s + 1) : Nat) : Int))), (4, (Value.int .i64 ((hOf (s + 1) : Nat) : Int)))] := by
        rw [show ((hOf (s + 1) : Nat) : Int) = ((hOf s : Nat) : Int) / 2 by omega]
        exact hF.sub ⟨rfl, rfl, rfl, rfl, trivial⟩
      refine ⟨_, ?_, s + 1, rfl, (by omega), hF.sub ⟨rfl, rfl, rfl, rfl, trivial⟩, ?_⟩
      · omega
      exact hM
  · have h1 := of_decide_eq_false h
    clear h
    have hs : ¬ s ≤ 6 := fun h => absurd (hm h).1 (by omega)
    have hs : s = 7 := by omega
    rw [hs] at hM
    refine wp_exit ?_
    refine then_exit ?_
    refine then_exit ?_
    refine block_exit ?_
    refine then_n ?_
    refine wp_seq ?_
    refine wp_region_lit ?_
    refine wl (d_loadA Try.underlying27 rfl sz27 rfl (hM.at 0 rfl) (cl_size _ _ _)) rfl hF (fun a hF => ?_)
    refine wl0R (ok_storeA (c' := cl .u16 256 (sNTT F)) sz27 rfl rfl (cl_size _ _ _) (cl_one _ _ _) (hM.at 1 rfl) (cl_size _ _ _)) hF ?_
    rintro w a hu hF
    have hM : Mem w0 w [(b1, cl .u16 256 (sNTT F), 27), (b2, cl .u16 256 (sNTT F), 27)] := hM.upd 1 rfl hu
    refine wl_nil ?_
    have hF := hF.sub (L' := [(1, (Value.pointer (some ⟨b1, 0, none⟩))), (2, (Value.pointer (some ⟨b2, 0, none⟩))), (3, (Value.int .i64 ((mOf s : Nat) : Int))), (4, (Value.int .i64 ((hOf s : Nat) : Int))), (11, (Value.bool (decide (2 ≤ ((hOf s : Nat) : Int)))))]) ⟨rfl, rfl, rfl, rfl, rfl, trivial⟩
    refine then_n ?_
    refine wp_ret ?_
    refine body_ret hF (results1 Try.results24 (RV.cellA Try.underlying27 rfl sz27 hF rfl (hM.at 1 rfl) (cl_size _ _ _))) ?_
    exact ⟨rfl, hM.below⟩

set_option maxRecDepth 100000 in
theorem RInverse_calls {F : Nat → Int} (hf : U16 F) (w0 : World) : Calls Try.prog 25 (List.toArray [.agg (cl .u16 256 F)]) w0 (Ret fun v w' => v = .agg (cl .u16 256 (sInv F)) ∧ Gr w0 w') := by
  refine calls_of Try.func25 rfl Try.ntmps25 rfl fun a hF => ?_
  have hM := Mem.start w0
  have hF := hF.sub (L' := [(0, (Value.agg (cl .u16 256 F)))]) ⟨rfl, trivial⟩
  refine wp_seq ?_
  refine wp_region_lit ?_
  refine wlR (ok_box rfl) rfl hF ?_
  rintro _ w a ⟨b1, rfl, hnb_⟩ hF
  have hM : Mem w0 w [(b1, cl .u16 256 F, 27)] := hM.alloc hnb_
  refine wlR (ok_alloc z27) rfl hF ?_
  rintro _ w a ⟨b2, rfl, hnb_⟩ hF
  have hM : Mem w0 w [(b1, cl .u16 256 F, 27), (b2, cl .u16 256 fun _ => 0, 27)] := hM.alloc hnb_
  refine wl_nil ?_
  have hF := hF.sub (L' := [(0, (Value.agg (cl .u16 256 F))), (1, (Value.pointer (some ⟨b1, 0, none⟩))), (2, (Value.pointer (some ⟨b2, 0, none⟩)))]) ⟨rfl, rfl, rfl, trivial⟩
  refine then_n ?_
  refine wp_seq ?_
  refine wp_region_lit ?_
  refine wl (d_assign rfl) rfl hF (fun a hF => ?_)
  refine wl_nil ?_
  have hF := hF.sub (L' := [(0, (Value.agg (cl .u16 256 F))), (1, (Value.pointer (some ⟨b1, 0, none⟩))), (2, (Value.pointer (some ⟨b2, 0, none⟩))), (3, (Value.int .i64 127))]) ⟨rfl, rfl, rfl, rfl, trivial⟩
  refine then_n ?_
  refine wp_seq ?_
  refine wp_seq ?_
  refine wp_region_lit ?_
  refine wl (d_assign rfl) rfl hF (fun a hF => ?_)
  refine wl_nil ?_
  have hF := hF.sub (L' := [(0, (Value.agg (cl .u16 256 F))), (1, (Value.pointer (some ⟨b1, 0, none⟩))), (2, (Value.pointer (some ⟨b2, 0, none⟩))), (3, (Value.int .i64 127)), (4, (Value.int .i64 2))]) ⟨rfl, rfl, rfl, rfl, rfl, trivial⟩
  refine then_n ?_
  refine wp_block ?_
  refine wp_loop_k (fun fu_ a w => ∃ s : Nat, fu_ = 7 - s ∧ (s ≤ 7) ∧ Frm a 79 [(1, (Value.pointer (some ⟨b1, 0, none⟩))), (2, (Value.pointer (some ⟨b2, 0, none⟩))), (3, (Value.int .i64 ((kI s : Nat) : Int))), (4, (Value.int .i64 ((gI s : Nat) : Int)))] ∧ Mem w0 w [(b1, cl .u16 256 (isrc s F), 27), (b2, cl .u16 256 fun _ => 0, 27)]) _ ⟨0, rfl, (by omega), hF.sub ⟨rfl, rfl, rfl, rfl, trivial⟩, ?_⟩ ?_
  · exact hM
  rintro _ a w ⟨s, rfl, hl1_0, hF, hM⟩
  refine wp_seq ?_
  refine wp_seq ?_
  refine wp_region_lit ?_
  refine wl (d_move rfl) rfl hF (fun a hF => ?_)
  refine wl (d_leq rfl rfl) rfl hF (fun a hF => ?_)
  refine wl_nil ?_
  have hF := hF.sub (L' := [(1, (Value.pointer (some ⟨b1, 0, none⟩))), (2, (Value.pointer (some ⟨b2, 0, none⟩))), (3, (Value.int .i64 ((kI s : Nat) : Int))), (4, (Value.int .i64 ((gI s : Nat) : Int))), (12, (Value.bool (decide (((gI s : Nat) : Int) ≤ 128))))]) ⟨rfl, rfl, rfl, rfl, rfl, trivial⟩
  refine then_n ?_
  refine wp_if hF rfl (fun h => ?_) (fun h => ?_)
  · have h1 := of_decide_eq_true h
    clear h
    have hs7 : s ≠ 7 := by intro e; rw [e] at h1; exact absurd h1 (by decide)
    have hs6 : s ≤ 6 := by omega
    obtain ⟨hh2, hhm, hhs, hks, hks2, hm1, hm64, hh128⟩ := im hs6
    refine wp_skip ?_
    refine then_n ?_
    refine wp_seq ?_
    refine wp_block ?_
    refine wp_seq ?_
    refine wp_region_lit ?_
    refine wl (d_assign rfl) rfl hF (fun a hF => ?_)
    refine wl_nil ?_
    have hF := hF.sub (L' := [(1, (Value.pointer (some ⟨b1, 0, none⟩))), (2, (Value.pointer (some ⟨b2, 0, none⟩))), (3, (Value.int .i64 ((kI s : Nat) : Int))), (4, (Value.int .i64 ((gI s : Nat) : Int))), (5, (Value.int .i64 0)), (12, (Value.bool (decide (((gI s : Nat) : Int) ≤ 128))))]) ⟨rfl, rfl, rfl, rfl, rfl, rfl, trivial⟩
    refine then_n ?_
    refine wp_block ?_
    rw [show kI s = 2 * nI s - 1 - 0 by omega] at hF
    refine wp_loop_k (fun fu_ a w => ∃ b p : Nat, fu_ = nI s - b ∧ (p = gI s * b) ∧ (b ≤ nI s) ∧ Frm a 79 [(1, (Value.pointer (some ⟨b1, 0, none⟩))), (2, (Value.pointer (some ⟨b2, 0, none⟩))), (3, (Value.int .i64 ((2 * nI s - 1 - b : Nat) : Int))), (4, (Value.int .i64 ((gI s : Nat) : Int))), (5, (Value.int .i64 ((2 * p : Nat) : Int)))] ∧ Mem w0 w [(b1, cl .u16 256 (to (2 * p) (ilay (gI s) (nI s) (ilys s (rd F))) (isrc s F)), 27), (b2, cl .u16 256 fun _ => 0, 27)]) _ ⟨0, 0, rfl, (by rw [Nat.mul_zero]), (by omega), hF.sub ⟨rfl, rfl, rfl, rfl, rfl, trivial⟩, ?_⟩ ?_
    · rw [Nat.mul_zero, to_zero]; exact hM
    rintro _ a w ⟨b, p, rfl, hl2_0, hl2_1, hF, hM⟩
    refine wp_seq ?_
    refine wp_seq ?_
    refine wp_region_lit ?_
    refine wl (d_move rfl) rfl hF (fun a hF => ?_)
    refine wl (d_lss rfl rfl) rfl hF (fun a hF => ?_)
    refine wl_nil ?_
    have hF := hF.sub (L' := [(1, (Value.pointer (some ⟨b1, 0, none⟩))), (2, (Value.pointer (some ⟨b2, 0, none⟩))), (3, (Value.int .i64 ((2 * nI s - 1 - b : Nat) : Int))), (4, (Value.int .i64 ((gI s : Nat) : Int))), (5, (Value.int .i64 ((2 * p : Nat) : Int))), (16, (Value.bool (decide (((2 * p : Nat) : Int) < 256))))]) ⟨rfl, rfl, rfl, rfl, rfl, rfl, trivial⟩
    refine then_n ?_
    refine wp_if hF rfl (fun h => ?_) (fun h => ?_)
    · have h2 := of_decide_eq_true h
      clear h
      have hb := blk_lt hhm hl2_0 (by omega)
      have hph := blk_le hhm hl2_0 hb
      refine wp_skip ?_
      refine then_n ?_
      refine wp_seq ?_
      refine wp_block ?_
      refine wp_seq ?_
      refine wp_region_lit ?_
      refine wl (d_move rfl) rfl hF (fun a hF => ?_)
      refine wlR (ok_call c38 rfl (rev_calls (i := (2 * nI s - 1 - b)) (by omega) _)) rfl hF ?_
      rintro _ w a ⟨rfl, hg⟩ hF
      have hM := hM.call hg
      refine wlR (ok_call c37 rfl (zeta_calls (n := rb 7 (2 * nI s - 1 - b)) (by have := rb7_lt (2 * nI s - 1 - b); omega) _)) rfl hF ?_
      rintro _ w a ⟨rfl, hg⟩ hF
      have hM := hM.call hg
      refine wl (d_assign rfl) rfl hF (fun a hF => ?_)
      refine wl_nil ?_
      have hF := hF.sub (L' := [(1, (Value.pointer (some ⟨b1, 0, none⟩))), (2, (Value.pointer (some ⟨b2, 0, none⟩))), (3, (Value.int .i64 ((2 * nI s - 1 - b : Nat) : Int))), (4, (Value.int .i64 ((gI s : Nat) : Int))), (5, (Value.int .i64 ((2 * p : Nat) : Int))), (6, (Value.int .i64 (zt (2 * nI s - 1 - b)))), (16, (Value.bool (decide (((2 * p : Nat) : Int) < 256))))]) ⟨rfl, rfl, rfl, rfl, rfl, rfl, rfl, trivial⟩
      refine then_n ?_
      refine wp_seq ?_
      refine wp_region_lit ?_
      refine wl (d_move rfl) rfl hF (fun a hF => ?_)
      refine wl (d_sub rfl rfl (wrap_i64 (by omega) (by omega))) rfl hF (fun a hF => ?_)
      refine wl (d_assign rfl) rfl hF (fun a hF => ?_)
      refine wl_nil ?_
      have hF := hF.sub (L' := [(1, (Value.pointer (some ⟨b1, 0, none⟩))), (2, (Value.pointer (some ⟨b2, 0, none⟩))), (3, (Value.int .i64 (((2 * nI s - 1 - b : Nat) : Int) - 1))), (4, (Value.int .i64 ((gI s : Nat) : Int))), (5, (Value.int .i64 ((2 * p : Nat) : Int))), (6, (Value.int .i64 (zt (2 * nI s - 1 - b)))), (16, (Value.bool (decide (((2 * p : Nat) : Int) < 256))))]) ⟨rfl, rfl, rfl, rfl, rfl, rfl, rfl, trivial⟩
      refine then_n ?_
      refine wp_seq ?_
      rw [show ((2 * nI s - 1 - b : Nat) : Int) - 1 = ((2 * nI s - 1 - (b + 1) : Nat) : Int) by omega] at hF
      refine wp_region_lit ?_
      refine wl (d_move rfl) rfl hF (fun a hF => ?_)
      refine wl (d_assign rfl) rfl hF (fun a hF => ?_)
      refine wl_nil ?_
      have hF := hF.sub (L' := [(1, (Value.pointer (some ⟨b1, 0, none⟩))), (2, (Value.pointer (some ⟨b2, 0, none⟩))), (3, (Value.int .i64 ((2 * nI s - 1 - (b + 1) : Nat) : Int))), (4, (Value.int .i64 ((gI s : Nat) : Int))), (5, (Value.int .i64 ((2 * p : Nat) : Int))), (6, (Value.int .i64 (zt (2 * nI s - 1 - b)))), (7, (Value.int .i64 ((2 * p : Nat) : Int))), (16, (Value.bool (decide (((2 * p : Nat) : Int) < 256))))]) ⟨rfl, rfl, rfl, rfl, rfl, rfl, rfl, rfl, trivial⟩
      refine then_n ?_
      refine wp_block ?_
      refine wp_loop_k (fun fu_ a w => ∃ t : Nat, fu_ = gI s - t ∧ (t ≤ gI s) ∧ Frm a 79 [(1, (Value.pointer (some ⟨b1, 0, none⟩))), (2, (Value.pointer (some ⟨b2, 0, none⟩))), (3, (Value.int .i64 ((2 * nI s - 1 - (b + 1) : Nat) : Int))), (4, (Value.int .i64 ((gI s : Nat) : Int))), (5, (Value.int .i64 ((2 * p : Nat) : Int))), (6, (Value.int .i64 (zt (2 * nI s - 1 - b)))), (7, (Value.int .i64 ((2 * p + t : Nat) : Int)))] ∧ Mem w0 w [(b1, cl .u16 256 (inn (2 * p) t (gI s) (ilay (gI s) (nI s) (ilys s (rd F))) (to (2 * p) (ilay (gI s) (nI s) (ilys s (rd F))) (isrc s F))), 27), (b2, cl .u16 256 fun _ => 0, 27)]) _ ⟨0, rfl, (by omega), hF.sub ⟨rfl, rfl, rfl, rfl, rfl, rfl, rfl, trivial⟩, ?_⟩ ?_
      · rw [inn_zero, show to (2 * p) (ilay (gI s) (nI s) (ilys s (rd F))) (to (2 * p) (ilay (gI s) (nI s) (ilys s (rd F))) (isrc s F)) = to (2 * p) (ilay (gI s) (nI s) (ilys s (rd F))) (isrc s F) from by funext i; simp only [to]; split <;> simp_all]; exact hM
      rintro _ a w ⟨t, rfl, hl3_0, hF, hM⟩
      refine wp_seq ?_
      refine wp_seq ?_
      refine wp_region_lit ?_
      refine wl (d_move rfl) rfl hF (fun a hF => ?_)
      refine wl (d_move rfl) rfl hF (fun a hF => ?_)
      refine wl (d_move rfl) rfl hF (fun a hF => ?_)
      refine wl (d_add rfl rfl (wrap_i64 (by omega) (by omega))) rfl hF (fun a hF => ?_)
      refine wl (d_lss rfl rfl) rfl hF (fun a hF => ?_)
      refine wl_nil ?_
      have hF := hF.sub (L' := [(1, (Value.pointer (some ⟨b1, 0, none⟩))), (2, (Value.pointer (some ⟨b2, 0, none⟩))), (3, (Value.int .i64 ((2 * nI s - 1 - (b + 1) : Nat) : Int))), (4, (Value.int .i64 ((gI s : Nat) : Int))), (5, (Value.int .i64 ((2 * p : Nat) : Int))), (6, (Value.int .i64 (zt (2 * nI s - 1 - b)))), (7, (Value.int .i64 ((2 * p + t : Nat) : Int))), (31, (Value.bool (decide (((2 * p + t : Nat) : Int) < (((2 * p : Nat) : Int) + ((gI s : Nat) : Int))))))]) ⟨rfl, rfl, rfl, rfl, rfl, rfl, rfl, rfl, trivial⟩
      refine then_n ?_
      refine wp_if hF rfl (fun h => ?_) (fun h => ?_)
      · have h3 := of_decide_eq_true h
        clear h
        have eL : to (2 * p) (ilay (gI s) (nI s) (ilys s (rd F))) (isrc s F) (2 * p + t) = (isrc s F) (2 * p + t) := to_ge _ _ (by omega)
        have eH : to (2 * p) (ilay (gI s) (nI s) (ilys s (rd F))) (isrc s F) (2 * p + t + gI s) = (isrc s F) (2 * p + t + gI s) := to_ge _ _ (by omega)
        have bL := ilys_red (rd_red F) s (2 * p + t) (by omega)
        have bH := ilys_red (rd_red F) s (2 * p + t + gI s) (by omega)
        have bz := zt_b (2 * nI s - 1 - b)
        have bm := mulc bz (y := (ilys s (rd F)) (2 * p + t + gI s) + 3329 - (ilys s (rd F)) (2 * p + t)) (by omega)
        have sL := isrc_b s hf (i := 2 * p + t) (by omega)
        have sH := isrc_b s hf (i := 2 * p + t + gI s) (by omega)
        have mL := isrc_mod s F (i := 2 * p + t) (by omega)
        have mH := isrc_mod s F (i := 2 * p + t + gI s) (by omega)
        have vL := ilay_lo (m := nI s) (ilys s (rd F)) hl2_0 (show t < gI s by omega)
        have vH := ilay_hi (m := nI s) (ilys s (rd F)) hl2_0 (show t < gI s by omega)
        refine wp_skip ?_
        refine then_n ?_
        refine wp_seq ?_
        refine wp_block ?_
        refine wp_seq ?_
        refine wp_region_lit ?_
        refine wl (d_move rfl) rfl hF (fun a hF => ?_)
        refine wl (d_ixA0 (j := 2 * p + t) Try.underlying27 sz24 rfl rfl rfl (by omega)) rfl hF (fun a hF => ?_)
        refine wl (d_load1 Try.underlying24 rfl rfl (hM.cell 0 rfl (by rw [cl_get (by omega), inn_lo _ _ (by omega), eL]))) rfl hF (fun a hF => ?_)
        refine wl (d_conv Try.underlying24 Try.underlying3 rfl (wrap_i64 (by omega) (by omega))) rfl hF (fun a hF => ?_)
        refine wl (d_val (d_rem rfl rfl (by omega) (tmod_pos (by omega))) mL) rfl hF (fun a hF => ?_)
        refine wl (d_assign rfl) rfl hF (fun a hF => ?_)
        refine wl_nil ?_
        have hF := hF.sub (L' := [(1, (Value.pointer (some ⟨b1, 0, none⟩))), (2, (Value.pointer (some ⟨b2, 0, none⟩))), (3, (Value.int .i64 ((2 * nI s - 1 - (b + 1) : Nat) : Int))), (4, (Value.int .i64 ((gI s : Nat) : Int))), (5, (Value.int .i64 ((2 * p : Nat) : Int))), (6, (Value.int .i64 (zt (2 * nI s - 1 - b)))), (7, (Value.int .i64 ((2 * p + t : Nat) : Int))), (8, (Value.int .i64 ((ilys s (rd F)) (2 * p + t)))), (31, (Value.bool (decide (((2 * p + t : Nat) : Int) < (((2 * p : Nat) : Int) + ((gI s : Nat) : Int))))))]) ⟨rfl, rfl, rfl, rfl, rfl, rfl, rfl, rfl, rfl, trivial⟩
        refine then_n ?_
        refine wp_seq ?_
        refine wp_region_lit ?_
        refine wl (d_move rfl) rfl hF (fun a hF => ?_)
        refine wl (d_move rfl) rfl hF (fun a hF => ?_)
        refine wl (d_add rfl rfl (wrap_i64 (by omega) (by omega))) rfl hF (fun a hF => ?_)
        refine wl (d_ixA0 (j := 2 * p + t + gI s) Try.underlying27 sz24 rfl rfl (by omega) (by omega)) rfl hF (fun a hF => ?_)
        refine wl (d_load1 Try.underlying24 rfl rfl (hM.cell 0 rfl (by rw [cl_get (by omega), inn_hi, eH]))) rfl hF (fun a hF => ?_)
        refine wl (d_conv Try.underlying24 Try.underlying3 rfl (wrap_i64 (by omega) (by omega))) rfl hF (fun a hF => ?_)
        refine wl (d_val (d_rem rfl rfl (by omega) (tmod_pos (by omega))) mH) rfl hF (fun a hF => ?_)
        refine wl (d_assign rfl) rfl hF (fun a hF => ?_)
        refine wl_nil ?_
        have hF := hF.sub (L' := [(1, (Value.pointer (some ⟨b1, 0, none⟩))), (2, (Value.pointer (some ⟨b2, 0, none⟩))), (3, (Value.int .i64 ((2 * nI s - 1 - (b + 1) : Nat) : Int))), (4, (Value.int .i64 ((gI s : Nat) : Int))), (5, (Value.int .i64 ((2 * p : Nat) : Int))), (6, (Value.int .i64 (zt (2 * nI s - 1 - b)))), (7, (Value.int .i64 ((2 * p + t : Nat) : Int))), (8, (Value.int .i64 ((ilys s (rd F)) (2 * p + t)))), (9, (Value.int .i64 ((ilys s (rd F)) (2 * p + t + gI s)))), (31, (Value.bool (decide (((2 * p + t : Nat) : Int) < (((2 * p : Nat) : Int) + ((gI s : Nat) : Int))))))]) ⟨rfl, rfl, rfl, rfl, rfl, rfl, rfl, rfl, rfl, rfl, trivial⟩
        refine then_n ?_
        refine wp_seq ?_
        refine wp_region_lit ?_
        refine wl (d_move rfl) rfl hF (fun a hF => ?_)
        refine wl (d_move rfl) rfl hF (fun a hF => ?_)
        refine wl (d_move rfl) rfl hF (fun a hF => ?_)
        refine wl (d_add rfl rfl (wrap_i64 (by omega) (by omega))) rfl hF (fun a hF => ?_)
        refine wl (d_rem rfl rfl (by omega) (tmod_pos (by omega))) rfl hF (fun a hF => ?_)
        refine wl (d_conv Try.underlying3 Try.underlying24 rfl (wrap_u16 (by omega) (by omega))) rfl hF (fun a hF => ?_)
        refine wl (d_ixA0 (j := 2 * p + t) Try.underlying27 sz24 rfl rfl rfl (by omega)) rfl hF (fun a hF => ?_)
        refine wl0R (ok_store1 (v := (Value.int .u16 (((ilys s (rd F)) (2 * p + t) + (ilys s (rd F)) (2 * p + t + gI s)) % 3329))) sz24 rfl rfl rfl (hM.at 0 rfl) (by rw [cl_size]; omega)) hF ?_
        rintro w a hu hF
        rw [cl_set] at hu
        have hM : Mem w0 w [(b1, cl .u16 256 (upd (inn (2 * p) t (gI s) (ilay (gI s) (nI s) (ilys s (rd F))) (to (2 * p) (ilay (gI s) (nI s) (ilys s (rd F))) (isrc s F))) (2 * p + t) (((ilys s (rd F)) (2 * p + t) + (ilys s (rd F)) (2 * p + t + gI s)) % 3329)), 27), (b2, cl .u16 256 fun _ => 0, 27)] := hM.upd 0 rfl hu
        refine wl_nil ?_
        have hF := hF.sub (L' := [(1, (Value.pointer (some ⟨b1, 0, none⟩))), (2, (Value.pointer (some ⟨b2, 0, none⟩))), (3, (Value.int .i64 ((2 * nI s - 1 - (b + 1) : Nat) : Int))), (4, (Value.int .i64 ((gI s : Nat) : Int))), (5, (Value.int .i64 ((2 * p : Nat) : Int))), (6, (Value.int .i64 (zt (2 * nI s - 1 - b)))), (7, (Value.int .i64 ((2 * p + t : Nat) : Int))), (8, (Value.int .i64 ((ilys s (rd F)) (2 * p + t)))), (9, (Value.int .i64 ((ilys s (rd F)) (2 * p + t + gI s)))), (31, (Value.bool (decide (((2 * p + t : Nat) : Int) < (((2 * p : Nat) : Int) + ((gI s : Nat) : Int))))))]) ⟨rfl, rfl, rfl, rfl, rfl, rfl, rfl, rfl, rfl, rfl, trivial⟩
        refine then_n ?_
        refine wp_region_lit ?_
        refine wl (d_move rfl) rfl hF (fun a hF => ?_)
        refine wl (d_move rfl) rfl hF (fun a hF => ?_)
        refine wl (d_add rfl rfl (wrap_i64 (by omega) (by omega))) rfl hF (fun a hF => ?_)
        refine wl (d_move rfl) rfl hF (fun a hF => ?_)
        refine wl (d_move rfl) rfl hF (fun a hF => ?_)
        refine wl (d_add rfl rfl (wrap_i64 (by omega) (by omega))) rfl hF (fun a hF => ?_)
        refine wl (d_move rfl) rfl hF (fun a hF => ?_)
        refine wl (d_sub rfl rfl (wrap_i64 (by omega) (by omega))) rfl hF (fun a hF => ?_)
        refine wl (d_mul rfl rfl (wrap_i64 (by omega) (by omega))) rfl hF (fun a hF => ?_)
        refine wl (d_rem rfl rfl (by omega) (tmod_pos (by omega))) rfl hF (fun a hF => ?_)
        refine wl (d_conv Try.underlying3 Try.underlying24 rfl (wrap_u16 (by omega) (by omega))) rfl hF (fun a hF => ?_)
        refine wl (d_ixA0 (j := 2 * p + t + gI s) Try.underlying27 sz24 rfl rfl (by omega) (by omega)) rfl hF (fun a hF => ?_)
        refine wl0R (ok_store1 (v := (Value.int .u16 ((zt (2 * nI s - 1 - b) * (((ilys s (rd F)) (2 * p + t + gI s) + 3329) - (ilys s (rd F)) (2 * p + t))) % 3329))) sz24 rfl rfl rfl (hM.at 0 rfl) (by rw [cl_size]; omega)) hF ?_
        rintro w a hu hF
        rw [cl_set] at hu
        have hM : Mem w0 w [(b1, cl .u16 256 (upd (upd (inn (2 * p) t (gI s) (ilay (gI s) (nI s) (ilys s (rd F))) (to (2 * p) (ilay (gI s) (nI s) (ilys s (rd F))) (isrc s F))) (2 * p + t) (((ilys s (rd F)) (2 * p + t) + (ilys s (rd F)) (2 * p + t + gI s)) % 3329)) (2 * p + t + gI s) ((zt (2 * nI s - 1 - b) * (((ilys s (rd F)) (2 * p + t + gI s) + 3329) - (ilys s (rd F)) (2 * p + t))) % 3329)), 27), (b2, cl .u16 256 fun _ => 0, 27)] := hM.upd 0 rfl hu
        refine wl_nil ?_
        have hF := hF.sub (L' := [(1, (Value.pointer (some ⟨b1, 0, none⟩))), (2, (Value.pointer (some ⟨b2, 0, none⟩))), (3, (Value.int .i64 ((2 * nI s - 1 - (b + 1) : Nat) : Int))), (4, (Value.int .i64 ((gI s : Nat) : Int))), (5, (Value.int .i64 ((2 * p : Nat) : Int))), (6, (Value.int .i64 (zt (2 * nI s - 1 - b)))), (7, (Value.int .i64 ((2 * p + t : Nat) : Int))), (8, (Value.int .i64 ((ilys s (rd F)) (2 * p + t)))), (9, (Value.int .i64 ((ilys s (rd F)) (2 * p + t + gI s)))), (31, (Value.bool (decide (((2 * p + t : Nat) : Int) < (((2 * p : Nat) : Int) + ((gI s : Nat) : Int))))))]) ⟨rfl, rfl, rfl, rfl, rfl, rfl, rfl, rfl, rfl, rfl, trivial⟩
        refine block_n ?_
        refine then_n ?_
        refine wp_region_lit ?_
        refine wl (d_move rfl) rfl hF (fun a hF => ?_)
        refine wl (d_add rfl rfl (wrap_i64 (by omega) (by omega))) rfl hF (fun a hF => ?_)
        refine wl (d_assign rfl) rfl hF (fun a hF => ?_)
        refine wl_nil ?_
        have hF := hF.sub (L' := [(1, (Value.pointer (some ⟨b1, 0, none⟩))), (2, (Value.pointer (some ⟨b2, 0, none⟩))), (3, (Value.int .i64 ((2 * nI s - 1 - (b + 1) : Nat) : Int))), (4, (Value.int .i64 ((gI s : Nat) : Int))), (5, (Value.int .i64 ((2 * p : Nat) : Int))), (6, (Value.int .i64 (zt (2 * nI s - 1 - b)))), (7, (Value.int .i64 (((2 * p + t : Nat) : Int) + 1))), (8, (Value.int .i64 ((ilys s (rd F)) (2 * p + t)))), (9, (Value.int .i64 ((ilys s (rd F)) (2 * p + t + gI s)))), (31, (Value.bool (decide (((2 * p + t : Nat) : Int) < (((2 * p : Nat) : Int) + ((gI s : Nat) : Int))))))]) ⟨rfl, rfl, rfl, rfl, rfl, rfl, rfl, rfl, rfl, rfl, trivial⟩
        refine then_n ?_
        refine ⟨_, ?_, t + 1, rfl, (by omega), hF.sub ⟨rfl, rfl, rfl, rfl, rfl, rfl, rfl, trivial⟩, ?_⟩
        · omega
        rw [inn_step (by omega) vL.symm vH.symm] at hM
        exact hM
      · have h3 := of_decide_eq_false h
        clear h
        have ht : t = gI s := by omega
        refine wp_exit ?_
        refine then_exit ?_
        refine then_exit ?_
        refine block_exit ?_
        refine block_n ?_
        refine then_n ?_
        refine wp_region_lit ?_
        refine wl (d_move rfl) rfl hF (fun a hF => ?_)
        refine wl (d_move rfl) rfl hF (fun a hF => ?_)
        refine wl (d_mul rfl rfl (wrap_i64 (by omega) (by omega))) rfl hF (fun a hF => ?_)
        refine wl (d_add rfl rfl (wrap_i64 (by omega) (by omega))) rfl hF (fun a hF => ?_)
        refine wl (d_assign rfl) rfl hF (fun a hF => ?_)
        refine wl_nil ?_
        have hF := hF.sub (L' := [(1, (Value.pointer (some ⟨b1, 0, none⟩))), (2, (Value.pointer (some ⟨b2, 0, none⟩))), (3, (Value.int .i64 ((2 * nI s - 1 - (b + 1) : Nat) : Int))), (4, (Value.int .i64 ((gI s : Nat) : Int))), (5, (Value.int .i64 (((2 * p : Nat) : Int) + (2 * ((gI s : Nat) : Int))))), (6, (Value.int .i64 (zt (2 * nI s - 1 - b)))), (7, (Value.int .i64 ((2 * p + t : Nat) : Int))), (31, (Value.bool (decide (((2 * p + t : Nat) : Int) < (((2 * p : Nat) : Int) + ((gI s : Nat) : Int))))))]) ⟨rfl, rfl, rfl, rfl, rfl, rfl, rfl, rfl, trivial⟩
        refine then_n ?_
        have e6 : (((2 * p : Nat) : Int) + 2 * ((gI s : Nat) : Int)) = ((2 * (p + gI s) : Nat) : Int) := by omega
        rw [e6] at hF
        rw [ht, inn_all, show to (2 * p + 2 * gI s) (ilay (gI s) (nI s) (ilys s (rd F))) (to (2 * p) (ilay (gI s) (nI s) (ilys s (rd F))) (isrc s F)) = to (2 * p + 2 * gI s) (ilay (gI s) (nI s) (ilys s (rd F))) (isrc s F) from by funext i; simp only [to]; split <;> first | rfl | (rw [if_neg (by omega)])] at hM
        refine ⟨_, ?_, b + 1, p + gI s, rfl, (by rw [Nat.mul_succ]; omega), (by omega), hF.sub ⟨rfl, rfl, rfl, rfl, rfl, trivial⟩, ?_⟩
        · omega
        rw [show 2 * (p + gI s) = 2 * p + 2 * gI s by omega]
        exact hM
    · have h2 := of_decide_eq_false h
      clear h
      have hb := blk_eq hhm hl2_0 (by omega) hl2_1 hh2
      refine wp_exit ?_
      refine then_exit ?_
      refine then_exit ?_
      refine block_exit ?_
      refine block_n ?_
      refine then_n ?_
      refine wp_region_lit ?_
      refine wl (d_move rfl) rfl hF (fun a hF => ?_)
      refine wl (d_mul rfl rfl (wrap_i64 (by omega) (by omega))) rfl hF (fun a hF => ?_)
      refine wl (d_assign rfl) rfl hF (fun a hF => ?_)
      refine wl_nil ?_
      have hF := hF.sub (L' := [(1, (Value.pointer (some ⟨b1, 0, none⟩))), (2, (Value.pointer (some ⟨b2, 0, none⟩))), (3, (Value.int .i64 ((2 * nI s - 1 - b : Nat) : Int))), (4, (Value.int .i64 (2 * ((gI s : Nat) : Int)))), (5, (Value.int .i64 ((2 * p : Nat) : Int))), (16, (Value.bool (decide (((2 * p : Nat) : Int) < 256))))]) ⟨rfl, rfl, rfl, rfl, rfl, rfl, trivial⟩
      refine then_n ?_
      rw [hb, show 2 * nI s - 1 - nI s = kI (s + 1) by omega] at hF
      rw [show 2 * p = 256 by have := hl2_0; rw [hb] at this; omega, to_all] at hM
      have hF : Frm a 79 [(1, (Value.pointer (some ⟨b1, 0, none⟩))), (2, (Value.pointer (some ⟨b2, 0, none⟩))), (3, (Value.int .i64 ((kI (s + 1) : Nat) : Int))), (4, (Value.int .i64 ((gI (s + 1) : Nat) : Int)))] := by
        rw [show ((gI (s + 1) : Nat) : Int) = (2 * ((gI s : Nat) : Int)) by omega]
        exact hF.sub ⟨rfl, rfl, rfl, rfl, trivial⟩
      refine ⟨_, ?_, s + 1, rfl, (by omega), hF.sub ⟨rfl, rfl, rfl, rfl, trivial⟩, ?_⟩
      · omega
      exact hM
  · have h1 := of_decide_eq_false h
    clear h
    have hs : ¬ s ≤ 6 := fun h => absurd (im h).2.2.2.2.2.2.2 (by omega)
    have hs : s = 7 := by omega
    rw [hs] at hM
    refine wp_exit ?_
    refine then_exit ?_
    refine then_exit ?_
    refine block_exit ?_
    refine then_n ?_
    refine wp_seq ?_
    refine wp_seq ?_
    refine wp_region_lit ?_
    refine wl (d_assign rfl) rfl hF (fun a hF => ?_)
    refine wl_nil ?_
    have hF := hF.sub (L' := [(1, (Value.pointer (some ⟨b1, 0, none⟩))), (2, (Value.pointer (some ⟨b2, 0, none⟩))), (3, (Value.int .i64 ((kI s : Nat) : Int))), (4, (Value.int .i64 ((gI s : Nat) : Int))), (10, (Value.int .i64 0)), (12, (Value.bool (decide (((gI s : Nat) : Int) ≤ 128))))]) ⟨rfl, rfl, rfl, rfl, rfl, rfl, trivial⟩
    refine then_n ?_
    refine wp_block ?_
    refine wp_loop_k (fun fu_ a w => ∃ i : Nat, fu_ = 256 - i ∧ (i ≤ 256) ∧ Frm a 79 [(1, (Value.pointer (some ⟨b1, 0, none⟩))), (2, (Value.pointer (some ⟨b2, 0, none⟩))), (10, (Value.int .i64 (i : Int)))] ∧ Mem w0 w [(b1, cl .u16 256 (to i (sInv F) (ilys 7 (rd F))), 27), (b2, cl .u16 256 fun _ => 0, 27)]) _ ⟨0, rfl, (by omega), hF.sub ⟨rfl, rfl, rfl, trivial⟩, ?_⟩ ?_
    · rw [to_zero]; exact hM
    rintro _ a w ⟨i, rfl, hl4_0, hF, hM⟩
    refine wp_seq ?_
    refine wp_seq ?_
    refine wp_region_lit ?_
    refine wl (d_move rfl) rfl hF (fun a hF => ?_)
    refine wl (d_lss rfl rfl) rfl hF (fun a hF => ?_)
    refine wl_nil ?_
    have hF := hF.sub (L' := [(1, (Value.pointer (some ⟨b1, 0, none⟩))), (2, (Value.pointer (some ⟨b2, 0, none⟩))), (10, (Value.int .i64 (i : Int))), (66, (Value.bool (decide ((i : Int) < 256))))]) ⟨rfl, rfl, rfl, rfl, trivial⟩
    refine then_n ?_
    refine wp_if hF rfl (fun h => ?_) (fun h => ?_)
    · have hlt := of_decide_eq_true h
      clear h
      have e1 := to_at i (sInv F) (ilys 7 (rd F))
      have bi := ilys_red (rd_red F) 7 i (by omega)
      refine wp_skip ?_
      refine then_n ?_
      refine wp_seq ?_
      refine wp_block ?_
      refine wp_region_lit ?_
      refine wl (d_move rfl) rfl hF (fun a hF => ?_)
      refine wl (d_move rfl) rfl hF (fun a hF => ?_)
      refine wl (d_ixA0 (j := i) Try.underlying27 sz24 rfl rfl rfl (by omega)) rfl hF (fun a hF => ?_)
      refine wl (d_load1 Try.underlying24 rfl rfl (hM.cell 0 rfl (cl_get (by omega)))) rfl hF (fun a hF => ?_)
      refine wl (d_conv Try.underlying24 Try.underlying3 rfl (wrap_i64 (by omega) (by omega))) rfl hF (fun a hF => ?_)
      refine wl (d_mul rfl rfl (wrap_i64 (by omega) (by omega))) rfl hF (fun a hF => ?_)
      refine wl (d_rem rfl rfl (by omega) (tmod_pos (by omega))) rfl hF (fun a hF => ?_)
      refine wl (d_conv Try.underlying3 Try.underlying24 rfl (wrap_u16 (by omega) (by omega))) rfl hF (fun a hF => ?_)
      refine wl (d_ixA0 (j := i) Try.underlying27 sz24 rfl rfl rfl (by omega)) rfl hF (fun a hF => ?_)
      refine wl0R (ok_store1 (v := (Value.int .u16 (((to i (sInv F) (ilys 7 (rd F))) i * 3303) % 3329))) sz24 rfl rfl rfl (hM.at 0 rfl) (by rw [cl_size]; omega)) hF ?_
      rintro w a hu hF
      rw [cl_set] at hu
      have hM : Mem w0 w [(b1, cl .u16 256 (upd (to i (sInv F) (ilys 7 (rd F))) i (((to i (sInv F) (ilys 7 (rd F))) i * 3303) % 3329)), 27), (b2, cl .u16 256 fun _ => 0, 27)] := hM.upd 0 rfl hu
      refine wl_nil ?_
      have hF := hF.sub (L' := [(1, (Value.pointer (some ⟨b1, 0, none⟩))), (2, (Value.pointer (some ⟨b2, 0, none⟩))), (10, (Value.int .i64 (i : Int))), (66, (Value.bool (decide ((i : Int) < 256))))]) ⟨rfl, rfl, rfl, rfl, trivial⟩
      refine block_n ?_
      refine then_n ?_
      refine wp_region_lit ?_
      refine wl (d_move rfl) rfl hF (fun a hF => ?_)
      refine wl (d_add rfl rfl (wrap_i64 (by omega) (by omega))) rfl hF (fun a hF => ?_)
      refine wl (d_assign rfl) rfl hF (fun a hF => ?_)
      refine wl_nil ?_
      have hF := hF.sub (L' := [(1, (Value.pointer (some ⟨b1, 0, none⟩))), (2, (Value.pointer (some ⟨b2, 0, none⟩))), (10, (Value.int .i64 ((i : Int) + 1))), (66, (Value.bool (decide ((i : Int) < 256))))]) ⟨rfl, rfl, rfl, rfl, trivial⟩
      refine then_n ?_
      refine ⟨_, ?_, i + 1, rfl, (by omega), hF.sub ⟨rfl, rfl, rfl, trivial⟩, ?_⟩
      · omega
      rw [to_step (by rw [e1]; rfl)] at hM
      exact hM
    · have hlt := of_decide_eq_false h
      clear h
      have hi : i = 256 := by omega
      rw [hi, to_all] at hM
      refine wp_exit ?_
      refine then_exit ?_
      refine then_exit ?_
      refine block_exit ?_
      refine then_n ?_
      refine wp_seq ?_
      refine wp_region_lit ?_
      refine wl (d_loadA Try.underlying27 rfl sz27 rfl (hM.at 0 rfl) (cl_size _ _ _)) rfl hF (fun a hF => ?_)
      refine wl0R (ok_storeA (c' := cl .u16 256 (sInv F)) sz27 rfl rfl (cl_size _ _ _) (cl_one _ _ _) (hM.at 1 rfl) (cl_size _ _ _)) hF ?_
      rintro w a hu hF
      have hM : Mem w0 w [(b1, cl .u16 256 (sInv F), 27), (b2, cl .u16 256 (sInv F), 27)] := hM.upd 1 rfl hu
      refine wl_nil ?_
      have hF := hF.sub (L' := [(1, (Value.pointer (some ⟨b1, 0, none⟩))), (2, (Value.pointer (some ⟨b2, 0, none⟩))), (10, (Value.int .i64 (i : Int))), (66, (Value.bool (decide ((i : Int) < 256))))]) ⟨rfl, rfl, rfl, rfl, trivial⟩
      refine then_n ?_
      refine wp_ret ?_
      refine body_ret hF (results1 Try.results25 (RV.cellA Try.underlying27 rfl sz27 hF rfl (hM.at 1 rfl) (cl_size _ _ _))) ?_
      exact ⟨rfl, hM.below⟩
end Go.Mi.Ring
