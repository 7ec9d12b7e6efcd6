/- Walks: what functions of term return. -/
import Derived.Test.YtoefhjabaanokaaDoorTf
import Derived.Test.YtoefhjabaanokaaDoorW4
namespace Go.Mi.Term
open Go.Mi Go.Proofs Go.RowKit
set_option maxRecDepth 100000 in
theorem written_atom {T0 : World → Prop} {nb : Nat} (hT : ∀ w w', Below nb w w' → T0 w → T0 w') {n : Int} (hit : ∀ w, T0 w → Calls Tryd.prog 98 (List.toArray [.int .i64 n]) w (Ret fun v w' => v = .string (bs (Lib.itoa n)) ∧ Gr w w')) {sv : Value} (hlen : (Lib.itoa n).length ≤ 1000) (w0 : World) (hnb : nb ≤ w0.heap.size) (hw0 : T0 w0) : Calls Tryd.prog 83 (List.toArray [.int .i64 1, .int .i64 n, sv]) w0 (Ret fun v w' => v = .string (bs (wtn 1 n [])) ∧ Gr w0 w') := by
  refine calls_of Tryd.func83 rfl Tryd.ntmps83 rfl fun a hF => ?_
  have hM := Mem.start w0
  have hF := hF.sub (L' := [(0, (Value.int .i64 1)), (1, (Value.int .i64 n)), (2, sv)]) ⟨rfl, rfl, rfl, trivial⟩
  refine wp_seq ?_
  refine wp_region_lit ?_
  refine wl (d_assign rfl) rfl hF (fun a hF => ?_)
  refine wl_nil ?_
  have hF := hF.sub (L' := [(0, (Value.int .i64 1)), (1, (Value.int .i64 n)), (2, sv), (6, (Value.string (bs [])))]) ⟨rfl, rfl, rfl, rfl, trivial⟩
  refine then_n ?_
  refine wp_seq ?_
  refine wp_seq ?_
  refine wp_region_lit ?_
  refine wl (d_move rfl) rfl hF (fun a hF => ?_)
  refine wl (d_bool (c := true) (d_eql rfl rfl) (by decide)) rfl hF (fun a hF => ?_)
  refine wl_nil ?_
  have hF := hF.sub (L' := [(0, (Value.int .i64 1)), (1, (Value.int .i64 n)), (2, sv), (6, (Value.string (bs []))), (11, (Value.bool true))]) ⟨rfl, rfl, rfl, rfl, rfl, trivial⟩
  refine then_n ?_
  refine wp_cond_true (hF.eval rfl) ?_
  refine wp_seq ?_
  refine wp_region_lit ?_
  refine wl (d_move rfl) rfl hF (fun a hF => ?_)
  refine wlR (ok_call c97 rfl (word_calls (by omega) _)) rfl hF ?_
  rintro _ w a ⟨rfl, hg⟩ hF
  have hM := hM.call hg
  refine wl (d_move rfl) rfl hF (fun a hF => ?_)
  refine wlR (ok_call c98 rfl (hit _ (hT _ _ (hM.below.mono hnb) hw0))) rfl hF ?_
  rintro _ w a ⟨rfl, hg⟩ hF
  have hM := hM.call hg
  refine wl (d_addS (s := (word 1)) (u := (Lib.itoa n)) rfl rfl (by have : (word 1).length = 1 := rfl; omega)) rfl hF (fun a hF => ?_)
  refine wl (d_assign rfl) rfl hF (fun a hF => ?_)
  refine wl_nil ?_
  have hF := hF.sub (L' := [(0, (Value.int .i64 1)), (1, (Value.int .i64 n)), (2, sv), (6, (Value.string (bs ((word 1) ++ (Lib.itoa n))))), (11, (Value.bool true))]) ⟨rfl, rfl, rfl, rfl, rfl, trivial⟩
  refine then_n ?_
  refine wp_ret ?_
  refine then_ret ?_
  refine body_ret hF (results1 Tryd.results83 (RV.tmp hF rfl)) ?_
  exact ⟨rfl, hM.below⟩

set_option maxRecDepth 100000 in
theorem written_gen {k n : Int} {ks : List Tm} {X : List Nat} {ad : Option Addr} {cap : Nat} {xs : List Value} (hk : 1 ≤ k ∧ k ≤ 9) (hk1 : ¬ k = 1) (hk3 : ¬ k = 3) (w0 : World) (h1 : 0 < ks.length) (h8 : ks.length ≤ 1000) (hlen : (Lib.join (ks.map txt) [44]).length ≤ 1099511627776) (hsl : 0 < ks.length → ∃ b o, ad = some ⟨b, o, none⟩ ∧ b ∉ X ∧ At w0 b o xs) (hks : IsNs w0 X ks xs) (hjoin : JoinOk) :
    Calls Tryd.prog 83 (List.toArray [.int .i64 k, .int .i64 n, .slice ad ks.length cap]) w0 (Ret fun v w' => v = .string (bs (wtn k n (txtL ks))) ∧ Gr w0 w') := by
  refine calls_of Tryd.func83 rfl Tryd.ntmps83 rfl fun a hF => ?_
  have hM := Mem.start w0
  have hF := hF.sub (L' := [(0, (Value.int .i64 k)), (1, (Value.int .i64 n)), (2, (Value.slice ad ks.length cap))]) ⟨rfl, rfl, rfl, trivial⟩
  refine wp_seq ?_
  refine wp_region_lit ?_
  refine wl (d_assign rfl) rfl hF (fun a hF => ?_)
  refine wl_nil ?_
  have hF := hF.sub (L' := [(0, (Value.int .i64 k)), (1, (Value.int .i64 n)), (2, (Value.slice ad ks.length cap)), (6, (Value.string (bs [])))]) ⟨rfl, rfl, rfl, rfl, trivial⟩
  refine then_n ?_
  refine wp_seq ?_
  refine wp_seq ?_
  refine wp_region_lit ?_
  refine wl (d_move rfl) rfl hF (fun a hF => ?_)
  refine wl (d_bool (c := false) (d_eql rfl rfl) (decide_eq_false hk1)) rfl hF (fun a hF => ?_)
  refine wl_nil ?_
  have hF := hF.sub (L' := [(0, (Value.int .i64 k)), (1, (Value.int .i64 n)), (2, (Value.slice ad ks.length cap)), (6, (Value.string (bs []))), (11, (Value.bool false))]) ⟨rfl, rfl, rfl, rfl, rfl, trivial⟩
  refine then_n ?_
  refine wp_cond_false (hF.eval rfl) ?_
  refine wp_skip ?_
  refine then_n ?_
  refine wp_seq ?_
  refine wp_region_lit ?_
  refine wl (d_assign rfl) rfl hF (fun a hF => ?_)
  refine wl_nil ?_
  have hF := hF.sub (L' := [(0, (Value.int .i64 k)), (1, (Value.int .i64 n)), (2, (Value.slice ad ks.length cap)), (6, (Value.string (bs []))), (7, (Value.slice none 0 0)), (11, (Value.bool false))]) ⟨rfl, rfl, rfl, rfl, rfl, rfl, trivial⟩
  refine then_n ?_
  refine wp_seq ?_
  refine wp_seq ?_
  refine wp_region_lit ?_
  refine wl (d_move rfl) rfl hF (fun a hF => ?_)
  refine wl (d_len_slice Tryd.underlying110 rfl) rfl hF (fun a hF => ?_)
  refine wl (d_move rfl) rfl hF (fun a hF => ?_)
  refine wl_nil ?_
  have hF := hF.sub (L' := [(0, (Value.int .i64 k)), (1, (Value.int .i64 n)), (2, (Value.slice ad ks.length cap)), (6, (Value.string (bs []))), (7, (Value.slice none 0 0)), (11, (Value.bool false)), (17, (Value.slice ad ks.length cap)), (18, (Value.int .i64 (ks.length : Int))), (19, (Value.int .i64 0))]) ⟨rfl, rfl, rfl, rfl, rfl, rfl, rfl, rfl, rfl, trivial⟩
  refine then_n ?_
  refine wp_block ?_
  refine wp_loop_k (fun fu_ a w => ∃ (i : Nat) (lv : Value), fu_ = ks.length - i ∧ (i ≤ ks.length) ∧ (Own w w0.heap.size 9 1 lv i ((ks.take i).map (fun t => Value.string (bs (txt t))))) ∧ Frm a 59 [(0, (Value.int .i64 k)), (7, lv), (17, (Value.slice ad ks.length cap)), (18, (Value.int .i64 (ks.length : Int))), (19, (Value.int .i64 (i : Int)))] ∧ Mem w0 w []) _ ⟨0, Value.slice none 0 0, rfl, (by omega), (Own.nil _ _ _ _), hF.sub ⟨rfl, rfl, rfl, rfl, rfl, trivial⟩, ?_⟩ ?_
  · exact hM
  rintro _ a w ⟨i, lv, rfl, hl1_0, hl1_1, hF, hM⟩
  have hown := hl1_1
  refine wp_seq ?_
  refine wp_region_lit ?_
  refine wl (d_lss rfl rfl) rfl hF (fun a hF => ?_)
  refine wl_nil ?_
  have hF := hF.sub (L' := [(0, (Value.int .i64 k)), (7, lv), (17, (Value.slice ad ks.length cap)), (18, (Value.int .i64 (ks.length : Int))), (19, (Value.int .i64 (i : Int))), (20, (Value.bool (decide ((i : Int) < (ks.length : Int)))))]) ⟨rfl, rfl, rfl, rfl, rfl, rfl, trivial⟩
  refine then_n ?_
  refine wp_seq ?_
  refine wp_if hF rfl (fun h => ?_) (fun h => ?_)
  · have hlt := of_decide_eq_true h
    clear h
    obtain ⟨b0, o0, hae, hb0, hat0⟩ := hsl (by omega)
    obtain ⟨t1, hi⟩ : ∃ t, ks[i]? = some t := ⟨_, List.getElem?_eq_getElem (by omega)⟩
    obtain ⟨v1, hxi, hn1⟩ := hks.at i t1 hi
    obtain ⟨bn, kn, nn, sn, rfl, hbn, hatn⟩ := hn1.form
    refine wp_skip ?_
    refine then_n ?_
    refine wp_seq ?_
    refine wp_block ?_
    refine wp_seq ?_
    refine wp_region_lit ?_
    refine wl (d_ixS (b := b0) (o := o0) (j := i) Tryd.underlying110 sz83 (by rw [← hae]; rfl) rfl rfl (by omega)) rfl hF (fun a hF => ?_)
    refine wl (d_load1 Tryd.underlying83 rfl rfl ((hat0.mv (Gr.ch hM.below) (by simp)) i _ hxi)) rfl hF (fun a hF => ?_)
    refine wl (d_assign rfl) rfl hF (fun a hF => ?_)
    refine wl_nil ?_
    have hF := hF.sub (L' := [(0, (Value.int .i64 k)), (7, lv), (9, (Value.pointer (some ⟨bn, 0, none⟩))), (17, (Value.slice ad ks.length cap)), (18, (Value.int .i64 (ks.length : Int))), (19, (Value.int .i64 (i : Int))), (20, (Value.bool (decide ((i : Int) < (ks.length : Int)))))]) ⟨rfl, rfl, rfl, rfl, rfl, rfl, rfl, trivial⟩
    refine then_n ?_
    refine wp_region_lit ?_
    refine wl (d_move rfl) rfl hF (fun a hF => ?_)
    refine wl (d_move rfl) rfl hF (fun a hF => ?_)
    refine wl (d_nil rfl) rfl hF (fun a hF => ?_)
    refine wl (d_fieldAddrQ Tryd.underlying112 (m := 0) sz9 rfl rfl rfl) rfl hF (fun a hF => ?_)
    refine wl (d_load1 Tryd.underlying9 rfl rfl ((hatn.mv (Gr.ch hM.below) (by simp)) 3 _ rfl)) rfl hF (fun a hF => ?_)
    refine wlR (ok_buildSlice (cells := #[(Value.string (bs (txt t1)))]) Tryd.underlying132 zz9 rfl (by decide) (by decide) (by kernel_rfl)) rfl hF ?_
    rintro _ w a ⟨b1, rfl, hnb_⟩ hF
    have hM : Mem w0 w [(b1, #[(Value.string (bs (txt t1)))], 9)] := hM.alloc hnb_
    have hne : ∀ y, y ∈ oblk lv → b1 ≠ y := fun y hy => by have h1_ := (hown.lt y hy).2; have h2_ := hnb_.num; omega
    have hown := hown.mv hnb_.ch (by simp)
    have hown_ := hown
    refine wlR (ok_append1 (b := b1) (u := Value.string (bs (txt t1))) Tryd.underlying132 ii9 rfl rfl rfl hown_ (At.of_blk (hM.at 0 rfl)) rfl (by omega) (by unfold maxLen; omega) hM.below.size) rfl hF ?_
    rintro lv1 w a ⟨hown, hch, hob⟩ hF
    have hM := Mem_chg hM hch (fun y hy => ⟨(hown_.lt y hy).1, fun e he => by simp at he; subst he; exact hne y hy⟩)
    refine wl (d_assign rfl) rfl hF (fun a hF => ?_)
    refine wl_nil ?_
    have hF := hF.sub (L' := [(0, (Value.int .i64 k)), (7, lv1), (9, (Value.pointer (some ⟨bn, 0, none⟩))), (17, (Value.slice ad ks.length cap)), (18, (Value.int .i64 (ks.length : Int))), (19, (Value.int .i64 (i : Int))), (20, (Value.bool (decide ((i : Int) < (ks.length : Int)))))]) ⟨rfl, rfl, rfl, rfl, rfl, rfl, rfl, trivial⟩
    refine block_n ?_
    refine then_n ?_
    refine wp_region_lit ?_
    refine wl (d_add rfl rfl (wrap_i64 (by omega) (by omega))) rfl hF (fun a hF => ?_)
    refine wl (d_move rfl) rfl hF (fun a hF => ?_)
    refine wl_nil ?_
    have hF := hF.sub (L' := [(0, (Value.int .i64 k)), (7, lv1), (9, (Value.pointer (some ⟨bn, 0, none⟩))), (17, (Value.slice ad ks.length cap)), (18, (Value.int .i64 (ks.length : Int))), (19, (Value.int .i64 ((i : Int) + 1))), (20, (Value.bool (decide ((i : Int) < (ks.length : Int)))))]) ⟨rfl, rfl, rfl, rfl, rfl, rfl, rfl, trivial⟩
    refine then_n ?_
    refine ⟨_, ?_, i + 1, lv1, rfl, (by omega), (by rw [map_take_succ hi]; exact hown), hF.sub ⟨rfl, rfl, rfl, rfl, rfl, trivial⟩, ?_⟩
    · omega
    exact hM.sub (by simp)
  · have hlt := of_decide_eq_false h
    clear h
    have hi : i = ks.length := by omega
    have hown : Own w w0.heap.size 9 1 lv ks.length (ks.map (fun t => Value.string (bs (txt t)))) := by have h_ := hown; rw [hi, List.take_length] at h_; exact h_
    refine wp_exit ?_
    refine then_exit ?_
    refine then_exit ?_
    refine block_exit ?_
    refine then_n ?_
    refine wp_seq ?_
    refine wp_seq ?_
    refine region_plan Tt mo (fun ph_ w => Mem w0 w (([[]] : List (List Blk)).getD ph_ []) ∧ Own w w0.heap.size 9 1 lv ks.length (ks.map (fun t => Value.string (bs (txt t))))) [] (rows := [⟨[], [(0, (Value.int .i64 k))], [0], .val (Value.int .i64 k)⟩, ⟨[(0, 31)], [], [0], .val (Value.bool false)⟩, ⟨[(1, 32)], [], [0], .val (Value.bool false)⟩, ⟨[(2, 33)], [(7, lv)], [0], .val undef⟩, ⟨[(3, 34), (2, 33)], [], [0], .val undef⟩, ⟨[(4, 35), (2, 33)], [], [0], .val undef⟩, ⟨[(2, 33)], [(7, lv)], [0], .val undef⟩, ⟨[(6, 37), (2, 33)], [], [0], .val undef⟩, ⟨[(7, 38), (2, 33)], [], [0], .val undef⟩, ⟨[(5, 36), (8, 39), (2, 33)], [], [0], .val undef⟩, ⟨[(2, 33), (9, 40)], [], [0], .val (Value.bool false)⟩]) (by kernel_rfl) hF ⟨hM.drew, hown.mv (Ch.drew _) (by simp)⟩ ?_ ?_
    · refine ⟨?_, ?_, ?_, ?_, ?_, ?_, ?_, ?_, ?_, ?_, ?_, trivial⟩
      · exact ⟨⟨rfl, trivial⟩, fun ph_ _ vs w hW _ => Det.ob hW (d_move rfl)⟩
      · exact ⟨trivial, fun ph_ _ vs w hW _ => Det.ob hW (d_bool (c := false) (d_eql rfl rfl) (decide_eq_false hk3))⟩
      · exact ⟨trivial, fun ph_ _ vs w hW _ => Det.ob hW (d_move rfl)⟩
      · exact ⟨⟨rfl, trivial⟩, fun ph_ _ vs w hW _ => ⟨false, _, rfl, rfl, rfl, rfl⟩⟩
      · exact ⟨trivial, fun ph_ _ vs w hW _ => ⟨false, _, rfl, rfl, rfl, rfl⟩⟩
      · exact ⟨trivial, fun ph_ _ vs w hW _ => ⟨false, _, rfl, rfl, rfl, rfl⟩⟩
      · exact ⟨⟨rfl, trivial⟩, fun ph_ _ vs w hW _ => ⟨false, _, rfl, rfl, rfl, rfl⟩⟩
      · exact ⟨trivial, fun ph_ _ vs w hW _ => ⟨false, _, rfl, rfl, rfl, rfl⟩⟩
      · exact ⟨trivial, fun ph_ _ vs w hW _ => ⟨false, _, rfl, rfl, rfl, rfl⟩⟩
      · exact ⟨trivial, fun ph_ _ vs w hW _ => ⟨false, _, rfl, rfl, rfl, rfl⟩⟩
      · exact ⟨trivial, fun ph_ _ vs w hW _ => Det.ob hW (d_pick (b := false) rfl rfl)⟩
    · intro a w vs hW _ hF
      have hM : Mem w0 w [] := hW.1
      have hown := hW.2
      have hF := hF.sub (L' := [(0, (Value.int .i64 k)), (7, lv), (17, (Value.slice ad ks.length cap)), (18, (Value.int .i64 (ks.length : Int))), (19, (Value.int .i64 (i : Int))), (20, (Value.bool (decide ((i : Int) < (ks.length : Int))))), (41, (Value.bool false))]) ⟨rfl, rfl, rfl, rfl, rfl, rfl, rfl, trivial⟩
      refine then_n ?_
      refine wp_cond_false (hF.eval rfl) ?_
      refine wp_skip ?_
      refine then_n ?_
      refine wp_seq ?_
      have hwl := word_len k
      have hown2 := hown.at
      obtain ⟨g1, cap1, hlv, hc1, hat1⟩ : ∃ b cap, lv = .slice (some ⟨b, 0, none⟩) ks.length cap ∧ ks.length ≤ cap ∧ At _ b 0 (ks.map (fun t => Value.string (bs (txt t)))) := by rcases hown2 with ⟨_, h0, _⟩ | h; omega; exact h
      refine wp_region_lit ?_
      refine wl (d_move rfl) rfl hF (fun a hF => ?_)
      refine wlR (ok_call c97 rfl (word_calls (by omega) _)) rfl hF ?_
      rintro _ w a ⟨rfl, hg⟩ hF
      have hM := hM.call hg
      have hown := hown.mv (Gr.ch hg) (by simp)
      have hat1 := hat1.mv (Gr.ch hg) (by simp)
      refine wl (d_addS (s := (word k)) (u := [40]) rfl rfl (by simp; omega)) rfl hF (fun a hF => ?_)
      refine wl (d_move rfl) rfl hF (fun a hF => ?_)
      refine wlR (ok_call c99 rfl (hjoin lv g1 cap1 (ks.map txt) _ (by simpa using hlv) (hown.lt g1 (by rw [hlv]; simp [oblk])).2 (by simpa using hc1) (by rw [List.map_map]; exact hat1) hlen)) rfl hF ?_
      rintro _ w a ⟨rfl, hg⟩ hF
      have hM := hM.call hg
      refine wl (d_addS (s := ((word k) ++ ([40]))) (u := (Lib.join (ks.map txt) [44])) rfl rfl (by simp; omega)) rfl hF (fun a hF => ?_)
      refine wl (d_addS (s := (((word k) ++ ([40])) ++ (Lib.join (ks.map txt) [44]))) (u := [41]) rfl rfl (by simp; omega)) rfl hF (fun a hF => ?_)
      refine wl (d_assign rfl) rfl hF (fun a hF => ?_)
      refine wl_nil ?_
      have hF := hF.sub (L' := [(0, (Value.int .i64 k)), (6, (Value.string (bs ((((word k) ++ ([40])) ++ (Lib.join (ks.map txt) [44])) ++ ([41]))))), (7, lv), (17, (Value.slice ad ks.length cap)), (18, (Value.int .i64 (ks.length : Int))), (19, (Value.int .i64 (i : Int))), (20, (Value.bool (decide ((i : Int) < (ks.length : Int))))), (41, (Value.bool false))]) ⟨rfl, rfl, rfl, rfl, rfl, rfl, rfl, rfl, trivial⟩
      refine then_n ?_
      refine wp_ret ?_
      refine body_ret hF (results1 Tryd.results83 (RV.tmp hF rfl)) ?_
      exact ⟨by simp only [wtn, hk1, if_false, rowed, hk3, txtL_map], hM.below⟩
end Go.Mi.Term
