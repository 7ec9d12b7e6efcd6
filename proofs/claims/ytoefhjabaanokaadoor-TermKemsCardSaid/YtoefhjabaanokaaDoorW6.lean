/- Walks: what functions of term return. -/
import Derived.Test.YtoefhjabaanokaaDoorTf
import Derived.Test.YtoefhjabaanokaaDoorW5
namespace Go.Mi.Term
open Go.Mi Go.Proofs Go.RowKit
set_option maxRecDepth 100000 in
theorem written_dh {n : Int} {ks : List Tm} {X : List Nat} {ad : Option Addr} {cap : Nat} {xs : List Value} (w0 : World) (h2 : ks.length = 2) (hlen : ((ks.map txt).map List.length).sum ≤ 1099511627000) (hsl : 0 < ks.length → ∃ b o, ad = some ⟨b, o, none⟩ ∧ b ∉ X ∧ At w0 b o xs) (hks : IsNs w0 X ks xs) (hjoin : JoinOk) :
    Calls Tryd.prog 83 (List.toArray [.int .i64 3, .int .i64 n, .slice ad ks.length cap]) w0 (Ret fun v w' => v = .string (bs (wtn 3 n (txtL ks))) ∧ Gr w0 w') := by
  refine calls_of Tryd.func83 rfl Tryd.ntmps83 rfl fun a hF => ?_
  have hM := Mem.start w0
  have hF := hF.sub (L' := [(0, (Value.int .i64 3)), (1, (Value.int .i64 n)), (2, (Value.slice ad ks.length cap))]) ⟨rfl, rfl, rfl, trivial⟩
  refine wp_seq ?_
  refine wp_region_lit ?_
  refine wl (d_assign rfl) rfl hF (fun a hF => ?_)
  refine wl_nil ?_
  have hF := hF.sub (L' := [(0, (Value.int .i64 3)), (1, (Value.int .i64 n)), (2, (Value.slice ad ks.length cap)), (6, (Value.string (bs [])))]) ⟨rfl, rfl, rfl, rfl, trivial⟩
  refine then_n ?_
  refine wp_seq ?_
  refine wp_seq ?_
  refine wp_region_lit ?_
  refine wl (d_move rfl) rfl hF (fun a hF => ?_)
  refine wl (d_bool (c := false) (d_eql rfl rfl) (by decide)) rfl hF (fun a hF => ?_)
  refine wl_nil ?_
  have hF := hF.sub (L' := [(0, (Value.int .i64 3)), (1, (Value.int .i64 n)), (2, (Value.slice ad ks.length cap)), (6, (Value.string (bs []))), (11, (Value.bool false))]) ⟨rfl, rfl, rfl, rfl, rfl, trivial⟩
  refine then_n ?_
  refine wp_cond_false (hF.eval rfl) ?_
  refine wp_skip ?_
  refine then_n ?_
  refine wp_seq ?_
  refine wp_region_lit ?_
  refine wl (d_assign rfl) rfl hF (fun a hF => ?_)
  refine wl_nil ?_
  have hF := hF.sub (L' := [(0, (Value.int .i64 3)), (1, (Value.int .i64 n)), (2, (Value.slice ad ks.length cap)), (6, (Value.string (bs []))), (7, (Value.slice none 0 0)), (11, (Value.bool false))]) ⟨rfl, rfl, rfl, rfl, rfl, rfl, trivial⟩
  refine then_n ?_
  refine wp_seq ?_
  refine wp_seq ?_
  refine wp_region_lit ?_
  refine wl (d_move rfl) rfl hF (fun a hF => ?_)
  refine wl (d_len_slice Tryd.underlying110 rfl) rfl hF (fun a hF => ?_)
  refine wl (d_move rfl) rfl hF (fun a hF => ?_)
  refine wl_nil ?_
  have hF := hF.sub (L' := [(0, (Value.int .i64 3)), (1, (Value.int .i64 n)), (2, (Value.slice ad ks.length cap)), (6, (Value.string (bs []))), (7, (Value.slice none 0 0)), (11, (Value.bool false)), (17, (Value.slice ad ks.length cap)), (18, (Value.int .i64 (ks.length : Int))), (19, (Value.int .i64 0))]) ⟨rfl, rfl, rfl, rfl, rfl, rfl, rfl, rfl, rfl, trivial⟩
  refine then_n ?_
  refine wp_block ?_
  refine wp_loop_k (fun fu_ a w => ∃ (i : Nat) (lv : Value), fu_ = ks.length - i ∧ (i ≤ ks.length) ∧ (Own w w0.heap.size 9 1 lv i ((ks.take i).map (fun t => Value.string (bs (txt t))))) ∧ Frm a 59 [(0, (Value.int .i64 3)), (7, lv), (17, (Value.slice ad ks.length cap)), (18, (Value.int .i64 (ks.length : Int))), (19, (Value.int .i64 (i : Int)))] ∧ Mem w0 w []) _ ⟨0, Value.slice none 0 0, rfl, (by omega), (Own.nil _ _ _ _), hF.sub ⟨rfl, rfl, rfl, rfl, rfl, trivial⟩, ?_⟩ ?_
  · exact hM
  rintro _ a w ⟨i, lv, rfl, hl1_0, hl1_1, hF, hM⟩
  have hown := hl1_1
  refine wp_seq ?_
  refine wp_region_lit ?_
  refine wl (d_lss rfl rfl) rfl hF (fun a hF => ?_)
  refine wl_nil ?_
  have hF := hF.sub (L' := [(0, (Value.int .i64 3)), (7, lv), (17, (Value.slice ad ks.length cap)), (18, (Value.int .i64 (ks.length : Int))), (19, (Value.int .i64 (i : Int))), (20, (Value.bool (decide ((i : Int) < (ks.length : Int)))))]) ⟨rfl, rfl, rfl, rfl, rfl, rfl, trivial⟩
  refine then_n ?_
  refine wp_seq ?_
  refine wp_if hF rfl (fun h => ?_) (fun h => ?_)
  · have hlt := of_decide_eq_true h
    clear h
    obtain ⟨b0, o0, hae, hb0, hat0⟩ := hsl (by omega)
    obtain ⟨t1, hi⟩ : ∃ t, ks[i]? = some t := ⟨_, List.getElem?_eq_getElem (by omega)⟩
    obtain ⟨v1, hxi, hn1⟩ := hks.at i t1 hi
    obtain ⟨bn, kn, nn, sn, rfl, hbn, hatn⟩ := hn1.form
    refine wp_skip ?_
    refine then_n ?_
    refine wp_seq ?_
    refine wp_block ?_
    refine wp_seq ?_
    refine wp_region_lit ?_
    refine wl (d_ixS (b := b0) (o := o0) (j := i) Tryd.underlying110 sz83 (by rw [← hae]; rfl) rfl rfl (by omega)) rfl hF (fun a hF => ?_)
    refine wl (d_load1 Tryd.underlying83 rfl rfl ((hat0.mv (Gr.ch hM.below) (by simp)) i _ hxi)) rfl hF (fun a hF => ?_)
    refine wl (d_assign rfl) rfl hF (fun a hF => ?_)
    refine wl_nil ?_
    have hF := hF.sub (L' := [(0, (Value.int .i64 3)), (7, lv), (9, (Value.pointer (some ⟨bn, 0, none⟩))), (17, (Value.slice ad ks.length cap)), (18, (Value.int .i64 (ks.length : Int))), (19, (Value.int .i64 (i : Int))), (20, (Value.bool (decide ((i : Int) < (ks.length : Int)))))]) ⟨rfl, rfl, rfl, rfl, rfl, rfl, rfl, trivial⟩
    refine then_n ?_
    refine wp_region_lit ?_
    refine wl (d_move rfl) rfl hF (fun a hF => ?_)
    refine wl (d_move rfl) rfl hF (fun a hF => ?_)
    refine wl (d_nil rfl) rfl hF (fun a hF => ?_)
    refine wl (d_fieldAddrQ Tryd.underlying112 (m := 0) sz9 rfl rfl rfl) rfl hF (fun a hF => ?_)
    refine wl (d_load1 Tryd.underlying9 rfl rfl ((hatn.mv (Gr.ch hM.below) (by simp)) 3 _ rfl)) rfl hF (fun a hF => ?_)
    refine wlR (ok_buildSlice (cells := #[(Value.string (bs (txt t1)))]) Tryd.underlying132 zz9 rfl (by decide) (by decide) (by kernel_rfl)) rfl hF ?_
    rintro _ w a ⟨b1, rfl, hnb_⟩ hF
    have hM : Mem w0 w [(b1, #[(Value.string (bs (txt t1)))], 9)] := hM.alloc hnb_
    have hne : ∀ y, y ∈ oblk lv → b1 ≠ y := fun y hy => by have h1_ := (hown.lt y hy).2; have h2_ := hnb_.num; omega
    have hown := hown.mv hnb_.ch (by simp)
    have hown_ := hown
    refine wlR (ok_append1 (b := b1) (u := Value.string (bs (txt t1))) Tryd.underlying132 ii9 rfl rfl rfl hown_ (At.of_blk (hM.at 0 rfl)) rfl (by omega) (by unfold maxLen; omega) hM.below.size) rfl hF ?_
    rintro lv1 w a ⟨hown, hch, hob⟩ hF
    have hM := Mem_chg hM hch (fun y hy => ⟨(hown_.lt y hy).1, fun e he => by simp at he; subst he; exact hne y hy⟩)
    refine wl (d_assign rfl) rfl hF (fun a hF => ?_)
    refine wl_nil ?_
    have hF := hF.sub (L' := [(0, (Value.int .i64 3)), (7, lv1), (9, (Value.pointer (some ⟨bn, 0, none⟩))), (17, (Value.slice ad ks.length cap)), (18, (Value.int .i64 (ks.length : Int))), (19, (Value.int .i64 (i : Int))), (20, (Value.bool (decide ((i : Int) < (ks.length : Int)))))]) ⟨rfl, rfl, rfl, rfl, rfl, rfl, rfl, trivial⟩
    refine block_n ?_
    refine then_n ?_
    refine wp_region_lit ?_
    refine wl (d_add rfl rfl (wrap_i64 (by omega) (by omega))) rfl hF (fun a hF => ?_)
    refine wl (d_move rfl) rfl hF (fun a hF => ?_)
    refine wl_nil ?_
    have hF := hF.sub (L' := [(0, (Value.int .i64 3)), (7, lv1), (9, (Value.pointer (some ⟨bn, 0, none⟩))), (17, (Value.slice ad ks.length cap)), (18, (Value.int .i64 (ks.length : Int))), (19, (Value.int .i64 ((i : Int) + 1))), (20, (Value.bool (decide ((i : Int) < (ks.length : Int)))))]) ⟨rfl, rfl, rfl, rfl, rfl, rfl, rfl, trivial⟩
    refine then_n ?_
    refine ⟨_, ?_, i + 1, lv1, rfl, (by omega), (by rw [map_take_succ hi]; exact hown), hF.sub ⟨rfl, rfl, rfl, rfl, rfl, trivial⟩, ?_⟩
    · omega
    exact hM.sub (by simp)
  · have hlt := of_decide_eq_false h
    clear h
    have hi : i = ks.length := by omega
    have hown : Own w w0.heap.size 9 1 lv ks.length (ks.map (fun t => Value.string (bs (txt t)))) := by have h_ := hown; rw [hi, List.take_length] at h_; exact h_
    refine wp_exit ?_
    refine then_exit ?_
    refine then_exit ?_
    refine block_exit ?_
    refine then_n ?_
    refine wp_seq ?_
    refine wp_seq ?_
    obtain ⟨ta, tb, hab⟩ : ∃ a b, ks = [a, b] := by match ks, h2 with | [a, b], _ => exact ⟨a, b, rfl⟩
    have hown2 : Own w w0.heap.size 9 1 lv 2 [Value.string (bs (txt ta)), Value.string (bs (txt tb))] := by have h_ := hown; rw [hab] at h_; exact h_
    obtain ⟨g1, cap1, cur, hlv, hg1, hcur, hcap, hc0, hc1, hcs⟩ := own_two hown2
    have hM : Mem w0 w [(g1, cur, 9)] := Mem_own hM hg1 hcur
    have hlen1 : (Lib.join [txt ta, txt tb] [44]).length ≤ 1099511627776 := by simp [Lib.join, List.intercalate]; rw [hab] at hlen; simp at hlen; omega
    have hlen2 : (Lib.join [txt tb, txt ta] [44]).length ≤ 1099511627776 := by simp [Lib.join, List.intercalate]; rw [hab] at hlen; simp at hlen; omega
    have hcs0 : 0 < cur.size := by omega
    have hcs1 : 1 < cur.size := by omega
    refine region_plan Tt mo (fun ph_ w => Mem w0 w (([[(g1, cur, 9)]] : List (List Blk)).getD ph_ [])) [] (rows := [⟨[], [(0, (Value.int .i64 3))], [0], .val (Value.int .i64 3)⟩, ⟨[(0, 31)], [], [0], .val (Value.bool true)⟩, ⟨[(1, 32)], [], [0], .val (Value.bool true)⟩, ⟨[(2, 33)], [(7, lv)], [0], .val lv⟩, ⟨[(3, 34), (2, 33)], [], [0], .val (Value.pointer (some ⟨g1, 1, none⟩))⟩, ⟨[(4, 35), (2, 33)], [], [0], .val (Value.string (bs (txt tb)))⟩, ⟨[(2, 33)], [(7, lv)], [0], .val lv⟩, ⟨[(6, 37), (2, 33)], [], [0], .val (Value.pointer (some ⟨g1, 0, none⟩))⟩, ⟨[(7, 38), (2, 33)], [], [0], .val (Value.string (bs (txt ta)))⟩, ⟨[(5, 36), (8, 39), (2, 33)], [], [0], .val (Value.bool (lessTx (txt tb) (txt ta)))⟩, ⟨[(2, 33), (9, 40)], [], [0], .val (Value.bool (lessTx (txt tb) (txt ta)))⟩]) (by kernel_rfl) hF hM.drew ?_ ?_
    · refine ⟨?_, ?_, ?_, ?_, ?_, ?_, ?_, ?_, ?_, ?_, ?_, trivial⟩
      · exact ⟨⟨rfl, trivial⟩, fun ph_ _ vs w hW _ => Det.ob hW (d_move rfl)⟩
      · exact ⟨trivial, fun ph_ _ vs w hW _ => Det.ob hW (d_bool (c := true) (d_eql rfl rfl) (by decide))⟩
      · exact ⟨trivial, fun ph_ _ vs w hW _ => Det.ob hW (d_move rfl)⟩
      · exact ⟨⟨rfl, trivial⟩, fun ph_ _ vs w hW _ => ⟨true, _, rfl, rfl, Det.ob hW (d_move rfl)⟩⟩
      · exact ⟨trivial, fun ph_ _ vs w hW _ => ⟨true, _, rfl, rfl, Det.ob hW (d_ixS0 (j := 1) Tryd.underlying132 sz9 (by rw [← hlv]; rfl) rfl rfl (by omega))⟩⟩
      · refine ⟨trivial, fun ph_ hp_ vs w hW _ => ?_⟩
        obtain rfl := memN_one hp_
        have hM : Mem w0 w [(g1, cur, 9)] := hW
        exact ⟨true, _, rfl, rfl, Det.ob hW (d_load1 Tryd.underlying9 rfl rfl (hM.cell 0 rfl hc1))⟩
      · exact ⟨⟨rfl, trivial⟩, fun ph_ _ vs w hW _ => ⟨true, _, rfl, rfl, Det.ob hW (d_move rfl)⟩⟩
      · exact ⟨trivial, fun ph_ _ vs w hW _ => ⟨true, _, rfl, rfl, Det.ob hW (d_ixS0 (j := 0) Tryd.underlying132 sz9 (by rw [← hlv]; rfl) rfl rfl (by omega))⟩⟩
      · refine ⟨trivial, fun ph_ hp_ vs w hW _ => ?_⟩
        obtain rfl := memN_one hp_
        have hM : Mem w0 w [(g1, cur, 9)] := hW
        exact ⟨true, _, rfl, rfl, Det.ob hW (d_load1 Tryd.underlying9 rfl rfl (hM.cell 0 rfl hc0))⟩
      · exact ⟨trivial, fun ph_ _ vs w hW _ => ⟨true, _, rfl, rfl, Det.ob hW (d_lssS (s := (txt tb)) (u := (txt ta)) rfl rfl)⟩⟩
      · exact ⟨trivial, fun ph_ _ vs w hW _ => Det.ob hW (d_pick (b := true) rfl rfl)⟩
    · intro a w vs hW _ hF
      have hM : Mem w0 w [(g1, cur, 9)] := hW
      have hF := hF.sub (L' := [(0, (Value.int .i64 3)), (7, lv), (17, (Value.slice ad ks.length cap)), (18, (Value.int .i64 (ks.length : Int))), (19, (Value.int .i64 (i : Int))), (20, (Value.bool (decide ((i : Int) < (ks.length : Int))))), (41, (Value.bool (lessTx (txt tb) (txt ta))))]) ⟨rfl, rfl, rfl, rfl, rfl, rfl, rfl, trivial⟩
      refine then_n ?_
      refine wp_if hF rfl (fun h => ?_) (fun h => ?_)
      · have hls := h
        clear h
        refine region_plan Tt mo (fun ph_ w => Mem w0 w (([[(g1, cur, 9)], [(g1, (cur.setIfInBounds 0 (Value.string (bs (txt tb)))), 9)], [(g1, ((cur.setIfInBounds 0 (Value.string (bs (txt tb)))).setIfInBounds 1 (Value.string (bs (txt ta)))), 9)]] : List (List Blk)).getD ph_ [])) [9, 11] (rows := [⟨[], [(7, lv)], [0], .val lv⟩, ⟨[], [(7, lv)], [0, 1], .val lv⟩, ⟨[], [(7, lv)], [0], .val lv⟩, ⟨[(2, 44)], [], [0], .val (Value.pointer (some ⟨g1, 1, none⟩))⟩, ⟨[(3, 45)], [], [0], .val (Value.string (bs (txt tb)))⟩, ⟨[], [(7, lv)], [0], .val lv⟩, ⟨[(5, 47)], [], [0], .val (Value.pointer (some ⟨g1, 0, none⟩))⟩, ⟨[(6, 48)], [], [0], .val (Value.string (bs (txt ta)))⟩, ⟨[(0, 42)], [], [0], .val (Value.pointer (some ⟨g1, 0, none⟩))⟩, ⟨[(8, 50), (4, 46)], [], [0], .rel (fun _ _ => True) (fun _ _ _ _ _ => trivial)⟩, ⟨[(1, 43)], [], [1], .val (Value.pointer (some ⟨g1, 1, none⟩))⟩, ⟨[(10, 51), (7, 49)], [], [1], .rel (fun _ _ => True) (fun _ _ _ _ _ => trivial)⟩]) (by kernel_rfl) hF hM.drew ?_ ?_
        · refine ⟨?_, ?_, ?_, ?_, ?_, ?_, ?_, ?_, ?_, ?_, ?_, ?_, trivial⟩
          · exact ⟨⟨rfl, trivial⟩, fun ph_ _ vs w hW _ => Det.ob hW (d_move rfl)⟩
          · exact ⟨⟨rfl, trivial⟩, fun ph_ _ vs w hW _ => Det.ob hW (d_move rfl)⟩
          · exact ⟨⟨rfl, trivial⟩, fun ph_ _ vs w hW _ => Det.ob hW (d_move rfl)⟩
          · exact ⟨trivial, fun ph_ _ vs w hW _ => Det.ob hW (d_ixS0 (j := 1) Tryd.underlying132 sz9 (by rw [← hlv]; rfl) rfl rfl (by omega))⟩
          · refine ⟨trivial, fun ph_ hp_ vs w hW _ => ?_⟩
            obtain rfl := memN_one hp_
            have hM : Mem w0 w [(g1, cur, 9)] := hW
            exact Det.ob hW (d_load1 Tryd.underlying9 rfl rfl (hM.cell 0 rfl hc1))
          · exact ⟨⟨rfl, trivial⟩, fun ph_ _ vs w hW _ => Det.ob hW (d_move rfl)⟩
          · exact ⟨trivial, fun ph_ _ vs w hW _ => Det.ob hW (d_ixS0 (j := 0) Tryd.underlying132 sz9 (by rw [← hlv]; rfl) rfl rfl (by omega))⟩
          · refine ⟨trivial, fun ph_ hp_ vs w hW _ => ?_⟩
            obtain rfl := memN_one hp_
            have hM : Mem w0 w [(g1, cur, 9)] := hW
            exact Det.ob hW (d_load1 Tryd.underlying9 rfl rfl (hM.cell 0 rfl hc0))
          · exact ⟨trivial, fun ph_ _ vs w hW _ => Det.ob hW (d_ixS0 (j := 0) Tryd.underlying132 sz9 (by rw [← hlv]; rfl) rfl rfl (by omega))⟩
          · refine ⟨trivial, fun ph_ hp_ vs w hW _ => ?_⟩
            obtain rfl := memN_one hp_
            have hM : Mem w0 w [(g1, cur, 9)] := hW
            exact Ok1.obs (fun w' hu => by exact hM.upd 0 rfl hu) (ok_store1 (v := (Value.string (bs (txt tb)))) sz9 rfl rfl rfl (hM.at 0 rfl) (by first | omega | (simp; omega)))
          · exact ⟨trivial, fun ph_ _ vs w hW _ => Det.ob hW (d_ixS0 (j := 1) Tryd.underlying132 sz9 (by rw [← hlv]; rfl) rfl rfl (by omega))⟩
          · refine ⟨trivial, fun ph_ hp_ vs w hW _ => ?_⟩
            obtain rfl := memN_one hp_
            have hM : Mem w0 w [(g1, (cur.setIfInBounds 0 (Value.string (bs (txt tb)))), 9)] := hW
            exact Ok1.obs (fun w' hu => by exact hM.upd 0 rfl hu) (ok_store1 (v := (Value.string (bs (txt ta)))) sz9 rfl rfl rfl (hM.at 0 rfl) (by first | omega | (simp; omega)))
        · intro a w vs hW _ hF
          have hM : Mem w0 w [(g1, ((cur.setIfInBounds 0 (Value.string (bs (txt tb)))).setIfInBounds 1 (Value.string (bs (txt ta)))), 9)] := hW
          have hF := hF.sub (L' := [(0, (Value.int .i64 3)), (7, lv), (17, (Value.slice ad ks.length cap)), (18, (Value.int .i64 (ks.length : Int))), (19, (Value.int .i64 (i : Int))), (20, (Value.bool (decide ((i : Int) < (ks.length : Int))))), (41, (Value.bool (lessTx (txt tb) (txt ta))))]) ⟨rfl, rfl, rfl, rfl, rfl, rfl, rfl, trivial⟩
          refine then_n ?_
          refine wp_seq ?_
          have hwl := word_len 3
          refine wp_region_lit ?_
          refine wl (d_move rfl) rfl hF (fun a hF => ?_)
          refine wlR (ok_call c97 rfl (word_calls (by omega) _)) rfl hF ?_
          rintro _ w a ⟨rfl, hg⟩ hF
          have hM := hM.call hg
          refine wl (d_addS (s := (word 3)) (u := [40]) rfl rfl (by simp; omega)) rfl hF (fun a hF => ?_)
          refine wl (d_move rfl) rfl hF (fun a hF => ?_)
          refine wlR (ok_call c99 rfl (hjoin lv g1 cap1 [txt tb, txt ta] _ hlv (hM.lt (List.mem_cons_self ..)) hcap (at_two (hM.at 0 rfl) (by simp [hcs0]) (by simp [hcs1])) hlen2)) rfl hF ?_
          rintro _ w a ⟨rfl, hg⟩ hF
          have hM := hM.call hg
          refine wl (d_addS (s := ((word 3) ++ ([40]))) (u := (Lib.join [txt tb, txt ta] [44])) rfl rfl (by simp; omega)) rfl hF (fun a hF => ?_)
          refine wl (d_addS (s := (((word 3) ++ ([40])) ++ (Lib.join [txt tb, txt ta] [44]))) (u := [41]) rfl rfl (by simp; omega)) rfl hF (fun a hF => ?_)
          refine wl (d_assign rfl) rfl hF (fun a hF => ?_)
          refine wl_nil ?_
          have hF := hF.sub (L' := [(0, (Value.int .i64 3)), (6, (Value.string (bs ((((word 3) ++ ([40])) ++ (Lib.join [txt tb, txt ta] [44])) ++ ([41]))))), (7, lv), (17, (Value.slice ad ks.length cap)), (18, (Value.int .i64 (ks.length : Int))), (19, (Value.int .i64 (i : Int))), (20, (Value.bool (decide ((i : Int) < (ks.length : Int))))), (41, (Value.bool (lessTx (txt tb) (txt ta))))]) ⟨rfl, rfl, rfl, rfl, rfl, rfl, rfl, rfl, trivial⟩
          refine then_n ?_
          refine wp_ret ?_
          refine body_ret hF (results1 Tryd.results83 (RV.tmp hF rfl)) ?_
          first | exact ⟨by rw [hab]; simp [wtn, rowed, txtL, hls], hM.below⟩
      · have hls := h
        clear h
        refine wp_skip ?_
        refine then_n ?_
        refine wp_seq ?_
        have hwl := word_len 3
        refine wp_region_lit ?_
        refine wl (d_move rfl) rfl hF (fun a hF => ?_)
        refine wlR (ok_call c97 rfl (word_calls (by omega) _)) rfl hF ?_
        rintro _ w a ⟨rfl, hg⟩ hF
        have hM := hM.call hg
        refine wl (d_addS (s := (word 3)) (u := [40]) rfl rfl (by simp; omega)) rfl hF (fun a hF => ?_)
        refine wl (d_move rfl) rfl hF (fun a hF => ?_)
        refine wlR (ok_call c99 rfl (hjoin lv g1 cap1 [txt ta, txt tb] _ hlv (hM.lt (List.mem_cons_self ..)) hcap (at_two (hM.at 0 rfl) hc0 hc1) hlen1)) rfl hF ?_
        rintro _ w a ⟨rfl, hg⟩ hF
        have hM := hM.call hg
        refine wl (d_addS (s := ((word 3) ++ ([40]))) (u := (Lib.join [txt ta, txt tb] [44])) rfl rfl (by simp; omega)) rfl hF (fun a hF => ?_)
        refine wl (d_addS (s := (((word 3) ++ ([40])) ++ (Lib.join [txt ta, txt tb] [44]))) (u := [41]) rfl rfl (by simp; omega)) rfl hF (fun a hF => ?_)
        refine wl (d_assign rfl) rfl hF (fun a hF => ?_)
        refine wl_nil ?_
        have hF := hF.sub (L' := [(0, (Value.int .i64 3)), (6, (Value.string (bs ((((word 3) ++ ([40])) ++ (Lib.join [txt ta, txt tb] [44])) ++ ([41]))))), (7, lv), (17, (Value.slice ad ks.length cap)), (18, (Value.int .i64 (ks.length : Int))), (19, (Value.int .i64 (i : Int))), (20, (Value.bool (decide ((i : Int) < (ks.length : Int))))), (41, (Value.bool (lessTx (txt tb) (txt ta))))]) ⟨rfl, rfl, rfl, rfl, rfl, rfl, rfl, rfl, trivial⟩
        refine then_n ?_
        refine wp_ret ?_
        refine body_ret hF (results1 Tryd.results83 (RV.tmp hF rfl)) ?_
        first | exact ⟨by rw [hab]; simp [wtn, rowed, txtL, hls], hM.below⟩
end Go.Mi.Term
