/- Walks: what functions of term return. -/
import Derived.Test.YtoefhjabaanokaaDoorTf
import Derived.Test.YtoefhjabaanokaaDoorH6
import Derived.Test.YtoefhjabaanokaaDoorW6
namespace Go.Mi.Term
open Go.Mi Go.Proofs Go.RowKit
set_option maxRecDepth 100000 in
theorem nodeOf_step {T0 : World → Prop} {nb : Nat} (hT : ∀ w w', Below nb w w' → T0 w → T0 w') (hjoin : JoinOk) {k nm : Int} {ks : List Tm} (hw : WrK T0 k (if k = 1 then nm else 0) (ks.map nrm)) (h8 : ks.length ≤ 1000)
    (ih : ∀ t, t ∈ ks → ∀ (X : List Nat) (vs : List Value) (w : World), nb ≤ w.heap.size → T0 w → (∀ x, x ∈ X → x < w.heap.size) → IsT w X t vs → Calls Tryd.prog 46 (List.toArray [.agg vs.toArray]) w (Ret fun v w' => IsN w' X (nrm t) v ∧ Gr w w'))
    {X : List Nat} {ad : Option Addr} {cap : Nat} {xs : List Value} (w0 : World) (hnb : nb ≤ w0.heap.size) (hw0 : T0 w0) (hX : ∀ x, x ∈ X → x < w0.heap.size) (hsl : 0 < ks.length → ∃ b o, ad = some ⟨b, o, none⟩ ∧ b ∉ X ∧ At w0 b o xs) (hks : IsTs w0 X ks xs) :
    Calls Tryd.prog 46 (List.toArray [.agg #[.int .i64 k, .int .i64 nm, .slice ad ks.length cap]]) w0 (Ret fun v w' => IsN w' X (nrm (.mk k nm ks)) v ∧ Gr w0 w') := by
  refine calls_of Tryd.func46 rfl Tryd.ntmps46 rfl fun a hF => ?_
  have hM := Mem.start w0
  have hF := hF.sub (L' := [(0, (Value.agg (#[(Value.int .i64 k), (Value.int .i64 nm), (Value.slice ad ks.length cap)])))]) ⟨rfl, trivial⟩
  refine wp_seq ?_
  refine wp_region_lit ?_
  refine wlR (ok_box rfl) rfl hF ?_
  rintro _ w a ⟨b1, rfl, hnb_⟩ hF
  have hM : Mem w0 w [(b1, #[(Value.int .i64 k), (Value.int .i64 nm), (Value.slice ad ks.length cap)], 26)] := hM.alloc hnb_
  refine wl (d_assign rfl) rfl hF (fun a hF => ?_)
  refine wl_nil ?_
  have hF := hF.sub (L' := [(0, (Value.agg (#[(Value.int .i64 k), (Value.int .i64 nm), (Value.slice ad ks.length cap)]))), (1, (Value.pointer (some ⟨b1, 0, none⟩))), (2, (Value.pointer none))]) ⟨rfl, rfl, rfl, trivial⟩
  refine then_n ?_
  refine wp_seq ?_
  refine wp_region_lit ?_
  refine wl (d_assign rfl) rfl hF (fun a hF => ?_)
  refine wl_nil ?_
  have hF := hF.sub (L' := [(0, (Value.agg (#[(Value.int .i64 k), (Value.int .i64 nm), (Value.slice ad ks.length cap)]))), (1, (Value.pointer (some ⟨b1, 0, none⟩))), (2, (Value.pointer none)), (3, (Value.slice none 0 0))]) ⟨rfl, rfl, rfl, rfl, trivial⟩
  refine then_n ?_
  refine wp_seq ?_
  refine wp_seq ?_
  refine wp_region_lit ?_
  refine wl (d_fieldAddrQ Tryd.underlying26 (m := 0) sz24 rfl rfl rfl) rfl hF (fun a hF => ?_)
  refine wl (d_load1 Tryd.underlying24 rfl rfl (hM.cell 0 rfl rfl)) rfl hF (fun a hF => ?_)
  refine wl (d_len_slice Tryd.underlying24 rfl) rfl hF (fun a hF => ?_)
  refine wl (d_move rfl) rfl hF (fun a hF => ?_)
  refine wl_nil ?_
  have hF := hF.sub (L' := [(0, (Value.agg (#[(Value.int .i64 k), (Value.int .i64 nm), (Value.slice ad ks.length cap)]))), (1, (Value.pointer (some ⟨b1, 0, none⟩))), (2, (Value.pointer none)), (3, (Value.slice none 0 0)), (8, (Value.slice ad ks.length cap)), (9, (Value.int .i64 (ks.length : Int))), (10, (Value.int .i64 0))]) ⟨rfl, rfl, rfl, rfl, rfl, rfl, rfl, trivial⟩
  refine then_n ?_
  refine wp_block ?_
  refine wp_loop_k (fun fu_ a w => ∃ (i : Nat) (lv : Value) (ps : List Value), fu_ = ks.length - i ∧ (i ≤ ks.length) ∧ (Own w w0.heap.size 83 1 lv i ps) ∧ (IsNs w (oblk lv ++ X) ((ks.take i).map nrm) ps) ∧ (∀ y, y ∈ oblk lv → b1 ≠ y) ∧ Frm a 47 [(1, (Value.pointer (some ⟨b1, 0, none⟩))), (3, lv), (8, (Value.slice ad ks.length cap)), (9, (Value.int .i64 (ks.length : Int))), (10, (Value.int .i64 (i : Int)))] ∧ Mem w0 w [(b1, #[(Value.int .i64 k), (Value.int .i64 nm), (Value.slice ad ks.length cap)], 26)]) _ ⟨0, Value.slice none 0 0, [], rfl, (by omega), (Own.nil _ _ _ _), (by simp [IsNs]), (by simp [oblk]), hF.sub ⟨rfl, rfl, rfl, rfl, rfl, trivial⟩, ?_⟩ ?_
  · exact hM
  rintro _ a w ⟨i, lv, ps, rfl, hl1_0, hl1_1, hl1_2, hl1_3, hF, hM⟩
  have hown := hl1_1
  have hns := hl1_2
  have hne1 := hl1_3
  refine wp_seq ?_
  refine wp_region_lit ?_
  refine wl (d_lss rfl rfl) rfl hF (fun a hF => ?_)
  refine wl_nil ?_
  have hF := hF.sub (L' := [(1, (Value.pointer (some ⟨b1, 0, none⟩))), (3, lv), (8, (Value.slice ad ks.length cap)), (9, (Value.int .i64 (ks.length : Int))), (10, (Value.int .i64 (i : Int))), (11, (Value.bool (decide ((i : Int) < (ks.length : Int)))))]) ⟨rfl, rfl, rfl, rfl, rfl, rfl, trivial⟩
  refine then_n ?_
  refine wp_seq ?_
  refine wp_if hF rfl (fun h => ?_) (fun h => ?_)
  · have hlt := of_decide_eq_true h
    clear h
    obtain ⟨b0, o0, hae, hb0, hat0⟩ := hsl (by omega)
    obtain ⟨t1, hi⟩ : ∃ t, ks[i]? = some t := ⟨_, List.getElem?_eq_getElem (by omega)⟩
    have hmem : t1 ∈ ks := List.mem_of_getElem? hi
    obtain ⟨a1, ha1, hat1⟩ := hks.at hat0 i t1 hi
    obtain ⟨k1, nm1, ad1, l1, cap1, rfl⟩ := ha1.form
    refine wp_skip ?_
    refine then_n ?_
    refine wp_seq ?_
    refine wp_block ?_
    refine wp_seq ?_
    refine wp_region_lit ?_
    refine wl (d_ixSm (b := b0) (o := o0) Tryd.underlying24 sz26 (by rw [← hae]; rfl) rfl rfl (by omega)) rfl hF (fun a hF => ?_)
    refine wl (d_loadC Tryd.underlying26 rfl sz26 rfl (hat1.mv (Gr.ch hM.below) (by simp)) rfl) rfl hF (fun a hF => ?_)
    refine wlR (ok_alloc z26) rfl hF ?_
    rintro _ w a ⟨b2, rfl, hnb_⟩ hF
    have hM : Mem w0 w [(b1, #[(Value.int .i64 k), (Value.int .i64 nm), (Value.slice ad ks.length cap)], 26), (b2, #[(Value.int .i64 0), (Value.int .i64 0), (Value.slice none 0 0)], 26)] := hM.alloc hnb_
    have hne2 : ∀ y, y ∈ oblk lv → b2 ≠ y := fun y hy => by have h1_ := (hown.lt y hy).2; have h2_ := hnb_.num; omega
    have hown := hown.mv hnb_.ch (by simp)
    have hns := IsNs.mv (X' := b2 :: (oblk lv ++ X)) hnb_.ch (by simp) (fun x hx => by rcases List.mem_cons.1 hx with rfl | hx; exact .inr (Nat.le_of_eq hnb_.num.symm); exact .inl hx) _ _ hns
    refine wl0R (ok_storeA (c' := #[(Value.int .i64 k1), (Value.int .i64 nm1), (Value.slice ad1 l1 cap1)]) sz26 rfl rfl rfl (fun v hv => by simp at hv; rcases hv with rfl | rfl | rfl <;> rfl) (hM.at 1 rfl) rfl) hF ?_
    rintro w a hu hF
    have hM : Mem w0 w [(b1, #[(Value.int .i64 k), (Value.int .i64 nm), (Value.slice ad ks.length cap)], 26), (b2, #[(Value.int .i64 k1), (Value.int .i64 nm1), (Value.slice ad1 l1 cap1)], 26)] := hM.upd 1 rfl hu
    have hown := hown.mv hu.ch (fun y hy => by simp; exact fun e => hne2 y hy e.symm)
    have hns := IsNs.mv hu.ch (by simp) (fun x hx => .inl hx) _ _ hns
    refine wl_nil ?_
    have hF := hF.sub (L' := [(1, (Value.pointer (some ⟨b1, 0, none⟩))), (3, lv), (5, (Value.pointer (some ⟨b2, 0, none⟩))), (8, (Value.slice ad ks.length cap)), (9, (Value.int .i64 (ks.length : Int))), (10, (Value.int .i64 (i : Int))), (11, (Value.bool (decide ((i : Int) < (ks.length : Int)))))]) ⟨rfl, rfl, rfl, rfl, rfl, rfl, rfl, trivial⟩
    refine then_n ?_
    refine wp_region_lit ?_
    refine wl (d_move rfl) rfl hF (fun a hF => ?_)
    refine wl (d_loadA Tryd.underlying26 rfl sz26 rfl (hM.at 1 rfl) rfl) rfl hF (fun a hF => ?_)
    have hXX : ∀ x, x ∈ (b2 :: (oblk lv ++ X)) → x < w.heap.size := fun x hx => by
      have hs_ := hM.below.size
      have hb_ := hM.lt (show (b2, _, _) ∈ _ from List.mem_cons_of_mem _ (List.mem_cons_self ..))
      simp only [List.mem_cons, List.mem_append] at hx
      rcases hx with rfl | hx | hx
      · exact hb_
      · exact (hown.lt x hx).2
      · have := hX x hx; omega
    have ha2 := IsT.mv (X' := (b2 :: (oblk lv ++ X))) (Gr.ch hM.below) (by simp) (fun x hx => by
      have hb_ := hM.new _ (show (b2, _, _) ∈ _ from List.mem_cons_of_mem _ (List.mem_cons_self ..))
      simp only [List.mem_cons, List.mem_append] at hx
      rcases hx with rfl | hx | hx
      · exact .inr hb_
      · exact .inr (hown.lt x hx).1
      · exact .inl hx) t1 _ ha1
    refine wlR (ok_call c46 rfl (ih t1 hmem (b2 :: (oblk lv ++ X)) _ _ (Nat.le_trans hnb hM.below.size) (hT _ _ (hM.below.mono hnb) hw0) hXX ha2)) rfl hF ?_
    rintro nv w a ⟨hnv, hg⟩ hF
    have hM := hM.call hg
    have hown := hown.mv (Gr.ch hg) (by simp)
    have hns := IsNs.mv (Gr.ch hg) (by simp) (fun x hx => .inl hx) _ _ hns
    refine wlR (ok_buildSlice (cells := #[nv]) Tryd.underlying110 zz83 rfl (by decide) (by decide) (fill1 (IsN.cellsv hnv))) rfl hF ?_
    rintro _ w a ⟨b3, rfl, hnb_⟩ hF
    have hM : Mem w0 w [(b1, #[(Value.int .i64 k), (Value.int .i64 nm), (Value.slice ad ks.length cap)], 26), (b2, #[(Value.int .i64 k1), (Value.int .i64 nm1), (Value.slice ad1 l1 cap1)], 26), (b3, #[nv], 83)] := hM.alloc hnb_
    have hne3 : ∀ y, y ∈ oblk lv → b3 ≠ y := fun y hy => by have h1_ := (hown.lt y hy).2; have h2_ := hnb_.num; omega
    have hown := hown.mv hnb_.ch (by simp)
    have hns := IsNs.mv hnb_.ch (by simp) (fun x hx => .inl hx) _ _ hns
    have hnv := IsN.mv hnb_.ch (by simp) (fun x hx => .inl hx) _ _ hnv
    have hown_ := hown
    have hM_ := hM
    refine wlR (ok_append1 (b := b3) (u := nv) Tryd.underlying110 ii83 rfl rfl rfl hown_ (At.of_blk (hM.at 2 rfl)) (hnv.cell1) (by omega) (by unfold maxLen; omega) hM.below.size) rfl hF ?_
    rintro lv1 w a ⟨hown, hch, hob⟩ hF
    have hM := Mem_chg hM hch (fun y hy => ⟨(hown_.lt y hy).1, fun e he => by simp at he; rcases he with rfl | rfl | rfl; exact hne1 y hy; exact hne2 y hy; exact hne3 y hy⟩)
    have hxx : ∀ x, x ∈ oblk lv1 ++ X → x ∈ (b2 :: (oblk lv ++ X)) ∨ _ ≤ x := fun x hx => by
      simp only [List.mem_cons, List.mem_append] at hx ⊢
      rcases hx with hx | hx
      · rcases hob with hob | hob
        · rw [hob] at hx; exact .inl (.inr (.inl hx))
        · rw [hob] at hx; simp at hx; exact .inr (Nat.le_of_eq hx.symm)
      · exact .inl (.inr (.inr hx))
    have hns := (IsNs.mv (X' := oblk lv1 ++ X) hch (fun y hy => List.mem_cons_of_mem _ (List.mem_append_left _ hy)) hxx _ _ hns).app (IsNs.one (IsN.mv (X' := oblk lv1 ++ X) hch (fun y hy => List.mem_cons_of_mem _ (List.mem_append_left _ hy)) hxx _ _ hnv))
    have hne1 : ∀ y, y ∈ oblk lv1 → b1 ≠ y := fun y hy => by
      have hb_ := hM_.lt (List.mem_cons_self ..)
      rcases hob with hob | hob
      · rw [hob] at hy; exact hne1 y hy
      · rw [hob] at hy; simp at hy hb_; omega
    refine wl (d_assign rfl) rfl hF (fun a hF => ?_)
    refine wl_nil ?_
    have hF := hF.sub (L' := [(1, (Value.pointer (some ⟨b1, 0, none⟩))), (3, lv1), (5, (Value.pointer (some ⟨b2, 0, none⟩))), (8, (Value.slice ad ks.length cap)), (9, (Value.int .i64 (ks.length : Int))), (10, (Value.int .i64 (i : Int))), (11, (Value.bool (decide ((i : Int) < (ks.length : Int)))))]) ⟨rfl, rfl, rfl, rfl, rfl, rfl, rfl, trivial⟩
    refine block_n ?_
    refine then_n ?_
    refine wp_region_lit ?_
    refine wl (d_add rfl rfl (wrap_i64 (by omega) (by omega))) rfl hF (fun a hF => ?_)
    refine wl (d_move rfl) rfl hF (fun a hF => ?_)
    refine wl_nil ?_
    have hF := hF.sub (L' := [(1, (Value.pointer (some ⟨b1, 0, none⟩))), (3, lv1), (5, (Value.pointer (some ⟨b2, 0, none⟩))), (8, (Value.slice ad ks.length cap)), (9, (Value.int .i64 (ks.length : Int))), (10, (Value.int .i64 ((i : Int) + 1))), (11, (Value.bool (decide ((i : Int) < (ks.length : Int)))))]) ⟨rfl, rfl, rfl, rfl, rfl, rfl, rfl, trivial⟩
    refine then_n ?_
    refine ⟨_, ?_, i + 1, lv1, ps ++ [nv], rfl, (by omega), hown, (by rw [map_take_succ hi]; exact hns), hne1, hF.sub ⟨rfl, rfl, rfl, rfl, rfl, trivial⟩, ?_⟩
    · omega
    exact hM.sub (by simp)
  · have hlt := of_decide_eq_false h
    clear h
    have hi : i = ks.length := by omega
    have hown : Own w w0.heap.size 83 1 lv ks.length ps := by have h_ := hown; rw [hi] at h_; exact h_
    have hns : IsNs w (oblk lv ++ X) (ks.map nrm) ps := by have h_ := hns; rw [hi, List.take_length] at h_; exact h_
    refine wp_exit ?_
    refine then_exit ?_
    refine then_exit ?_
    refine block_exit ?_
    refine then_n ?_
    refine wp_seq ?_
    refine wp_region_lit ?_
    refine wl (d_fieldAddrQ Tryd.underlying26 (m := 0) sz3 rfl rfl rfl) rfl hF (fun a hF => ?_)
    refine wl (d_load1 Tryd.underlying3 rfl rfl (hM.cell 0 rfl rfl)) rfl hF (fun a hF => ?_)
    refine wl (d_move rfl) rfl hF (fun a hF => ?_)
    refine wl (d_buildS (cells := #[(Value.int .i64 k), (Value.int .i64 0), lv, (Value.string (bs []))]) Tryd.underlying112 z112 (fun w => pl112 w _ Tryd.underlying112) rfl (fill4 rfl rfl (Own.cells1 hown) rfl)) rfl hF (fun a hF => ?_)
    refine wlR (ok_box rfl) rfl hF ?_
    rintro _ w a ⟨b4, rfl, hnb_⟩ hF
    have hM : Mem w0 w [(b1, #[(Value.int .i64 k), (Value.int .i64 nm), (Value.slice ad ks.length cap)], 26), (b4, #[(Value.int .i64 k), (Value.int .i64 0), lv, (Value.string (bs []))], 112)] := hM.alloc hnb_
    have hne4 : ∀ y, y ∈ oblk lv → b4 ≠ y := fun y hy => by have h1_ := (hown.lt y hy).2; have h2_ := hnb_.num; omega
    have hown := hown.mv hnb_.ch (by simp)
    have hns := IsNs.mv (X' := b4 :: (oblk lv ++ X)) hnb_.ch (by simp) (fun x hx => by rcases List.mem_cons.1 hx with rfl | hx; exact .inr (Nat.le_of_eq hnb_.num.symm); exact .inl hx) _ _ hns
    refine wl (d_assign rfl) rfl hF (fun a hF => ?_)
    refine wl_nil ?_
    have hF := hF.sub (L' := [(1, (Value.pointer (some ⟨b1, 0, none⟩))), (3, lv), (6, (Value.pointer (some ⟨b4, 0, none⟩))), (8, (Value.slice ad ks.length cap)), (9, (Value.int .i64 (ks.length : Int))), (10, (Value.int .i64 (i : Int))), (11, (Value.bool (decide ((i : Int) < (ks.length : Int)))))]) ⟨rfl, rfl, rfl, rfl, rfl, rfl, rfl, trivial⟩
    refine then_n ?_
    refine wp_seq ?_
    refine wp_seq ?_
    refine wp_region_lit ?_
    refine wl (d_fieldAddrQ Tryd.underlying26 (m := 0) sz3 rfl rfl rfl) rfl hF (fun a hF => ?_)
    refine wl (d_load1 Tryd.underlying3 rfl rfl (hM.cell 0 rfl rfl)) rfl hF (fun a hF => ?_)
    refine wl (d_eql rfl rfl) rfl hF (fun a hF => ?_)
    refine wl_nil ?_
    have hF := hF.sub (L' := [(1, (Value.pointer (some ⟨b1, 0, none⟩))), (3, lv), (6, (Value.pointer (some ⟨b4, 0, none⟩))), (8, (Value.slice ad ks.length cap)), (9, (Value.int .i64 (ks.length : Int))), (10, (Value.int .i64 (i : Int))), (11, (Value.bool (decide ((i : Int) < (ks.length : Int))))), (27, (Value.bool (decide (k = 1))))]) ⟨rfl, rfl, rfl, rfl, rfl, rfl, rfl, rfl, trivial⟩
    refine then_n ?_
    refine wp_if hF rfl (fun h => ?_) (fun h => ?_)
    · have hk1 := of_decide_eq_true h
      clear h
      have hwk : WrK T0 k nm (ks.map nrm) := by have h_ := hw; rw [if_pos hk1] at h_; exact h_
      refine wp_region_lit ?_
      refine wl (d_move rfl) rfl hF (fun a hF => ?_)
      refine wl (d_fieldAddrQ Tryd.underlying26 (m := 0) sz3 rfl rfl rfl) rfl hF (fun a hF => ?_)
      refine wl (d_load1 Tryd.underlying3 rfl rfl (hM.cell 0 rfl rfl)) rfl hF (fun a hF => ?_)
      refine wl (d_nil rfl) rfl hF (fun a hF => ?_)
      refine wl (d_fieldAddrQ Tryd.underlying112 (m := 0) sz3 rfl rfl rfl) rfl hF (fun a hF => ?_)
      refine wl0R (ok_store1 (v := (Value.int .i64 nm)) sz3 rfl rfl rfl (hM.at 1 rfl) (Nat.le_of_ble_eq_true rfl)) hF ?_
      rintro w a hu hF
      have hM : Mem w0 w [(b1, #[(Value.int .i64 k), (Value.int .i64 nm), (Value.slice ad ks.length cap)], 26), (b4, #[(Value.int .i64 k), (Value.int .i64 nm), lv, (Value.string (bs []))], 112)] := hM.upd 1 rfl hu
      have hown := hown.mv hu.ch (fun y hy => by simp; exact fun e => hne4 y hy e.symm)
      have hns := IsNs.mv hu.ch (by simp) (fun x hx => .inl hx) _ _ hns
      refine wl_nil ?_
      have hF := hF.sub (L' := [(1, (Value.pointer (some ⟨b1, 0, none⟩))), (3, lv), (6, (Value.pointer (some ⟨b4, 0, none⟩))), (8, (Value.slice ad ks.length cap)), (9, (Value.int .i64 (ks.length : Int))), (10, (Value.int .i64 (i : Int))), (11, (Value.bool (decide ((i : Int) < (ks.length : Int))))), (27, (Value.bool (decide (k = 1))))]) ⟨rfl, rfl, rfl, rfl, rfl, rfl, rfl, rfl, trivial⟩
      refine then_n ?_
      refine wp_seq ?_
      refine region_plan Tt mo (fun ph_ w => Mem w0 w (([[(b1, #[(Value.int .i64 k), (Value.int .i64 nm), (Value.slice ad ks.length cap)], 26), (b4, #[(Value.int .i64 k), (Value.int .i64 nm), lv, (Value.string (bs []))], 112)], [(b1, #[(Value.int .i64 k), (Value.int .i64 nm), (Value.slice ad ks.length cap)], 26), (b4, #[(Value.int .i64 k), (Value.int .i64 nm), lv, (Value.string (bs (txt (.mk k nm (ks.map nrm)))))], 112)]] : List (List Blk)).getD ph_ []) ∧ Own w w0.heap.size 83 1 lv ks.length ps ∧ IsNs w (b4 :: (oblk lv ++ X)) (ks.map nrm) ps) [13] (rows := [⟨[], [(6, (Value.pointer (some ⟨b4, 0, none⟩)))], [0], .val (Value.pointer (some ⟨b4, 0, none⟩))⟩, ⟨[], [(6, (Value.pointer (some ⟨b4, 0, none⟩)))], [0], .val (Value.pointer (some ⟨b4, 0, none⟩))⟩, ⟨[(1, 34)], [], [0], .val (Value.pointer (some ⟨b4, 0, none⟩))⟩, ⟨[(2, 35)], [], [0], .val (Value.pointer (some ⟨b4, 0, none⟩))⟩, ⟨[(3, 36)], [], [0], .val (Value.int .i64 k)⟩, ⟨[], [(6, (Value.pointer (some ⟨b4, 0, none⟩)))], [0], .val (Value.pointer (some ⟨b4, 0, none⟩))⟩, ⟨[(5, 38)], [], [0], .val (Value.pointer (some ⟨b4, 0, none⟩))⟩, ⟨[(6, 39)], [], [0], .val (Value.pointer (some ⟨b4, 1, none⟩))⟩, ⟨[(7, 40)], [], [0], .val (Value.int .i64 nm)⟩, ⟨[], [(3, lv)], [0], .val lv⟩, ⟨[(4, 37), (8, 41), (9, 42)], [], [0], .val (Value.string (bs (txt (.mk k nm (ks.map nrm)))))⟩, ⟨[(0, 33)], [], [0], .val (Value.pointer (some ⟨b4, 0, none⟩))⟩, ⟨[(11, 44)], [], [0], .val (Value.pointer (some ⟨b4, 3, none⟩))⟩, ⟨[(12, 45), (10, 43)], [], [0], .rel (fun _ _ => True) (fun _ _ _ _ _ => trivial)⟩]) (by kernel_rfl) hF ⟨hM.drew, hown.mv (Ch.drew _) (by simp), IsNs.mv (Ch.drew _) (by simp) (fun x hx => .inl hx) _ _ hns⟩ ?_ ?_
      · refine ⟨?_, ?_, ?_, ?_, ?_, ?_, ?_, ?_, ?_, ?_, ?_, ?_, ?_, ?_, trivial⟩
        · exact ⟨⟨rfl, trivial⟩, fun ph_ _ vs w hW _ => Det.ob hW (d_move rfl)⟩
        · exact ⟨⟨rfl, trivial⟩, fun ph_ _ vs w hW _ => Det.ob hW (d_move rfl)⟩
        · exact ⟨trivial, fun ph_ _ vs w hW _ => Det.ob hW (d_nil rfl)⟩
        · exact ⟨trivial, fun ph_ _ vs w hW _ => Det.ob hW (d_fieldAddrQ Tryd.underlying112 (m := 0) sz3 rfl rfl rfl)⟩
        · refine ⟨trivial, fun ph_ hp_ vs w hW _ => ?_⟩
          obtain rfl := memN_one hp_
          have hM : Mem w0 w [(b1, #[(Value.int .i64 k), (Value.int .i64 nm), (Value.slice ad ks.length cap)], 26), (b4, #[(Value.int .i64 k), (Value.int .i64 nm), lv, (Value.string (bs []))], 112)] := hW.1
          exact Det.ob hW (d_load1 Tryd.underlying3 rfl rfl (hM.cell 1 rfl rfl))
        · exact ⟨⟨rfl, trivial⟩, fun ph_ _ vs w hW _ => Det.ob hW (d_move rfl)⟩
        · exact ⟨trivial, fun ph_ _ vs w hW _ => Det.ob hW (d_nil rfl)⟩
        · exact ⟨trivial, fun ph_ _ vs w hW _ => Det.ob hW (d_fieldAddrQ Tryd.underlying112 (m := 0) sz3 rfl rfl rfl)⟩
        · refine ⟨trivial, fun ph_ hp_ vs w hW _ => ?_⟩
          obtain rfl := memN_one hp_
          have hM : Mem w0 w [(b1, #[(Value.int .i64 k), (Value.int .i64 nm), (Value.slice ad ks.length cap)], 26), (b4, #[(Value.int .i64 k), (Value.int .i64 nm), lv, (Value.string (bs []))], 112)] := hW.1
          exact Det.ob hW (d_load1 Tryd.underlying3 rfl rfl (hM.cell 1 rfl rfl))
        · exact ⟨⟨rfl, trivial⟩, fun ph_ _ vs w hW _ => Det.ob hW (d_move rfl)⟩
        · refine ⟨trivial, fun ph_ hp_ vs w hW _ => ?_⟩
          obtain rfl := memN_one hp_
          have hM : Mem w0 w [(b1, #[(Value.int .i64 k), (Value.int .i64 nm), (Value.slice ad ks.length cap)], 26), (b4, #[(Value.int .i64 k), (Value.int .i64 nm), lv, (Value.string (bs []))], 112)] := hW.1
          exact Ok1.obc (fun w' g => ⟨Mem.call hW.1 g, hW.2.1.mv (Gr.ch g) (by simp), IsNs.mv (Gr.ch g) (by simp) (fun x hx => .inl hx) _ _ hW.2.2⟩) (ok_call c83 rfl (written_own hT hjoin hwk _ (Nat.le_trans hnb hM.below.size) (hT _ _ (hM.below.mono hnb) hw0) hW.2.1 (by simp) hW.2.2))
        · exact ⟨trivial, fun ph_ _ vs w hW _ => Det.ob hW (d_nil rfl)⟩
        · exact ⟨trivial, fun ph_ _ vs w hW _ => Det.ob hW (d_fieldAddrQ Tryd.underlying112 (m := 0) sz9 rfl rfl rfl)⟩
        · refine ⟨trivial, fun ph_ hp_ vs w hW _ => ?_⟩
          obtain rfl := memN_one hp_
          have hM : Mem w0 w [(b1, #[(Value.int .i64 k), (Value.int .i64 nm), (Value.slice ad ks.length cap)], 26), (b4, #[(Value.int .i64 k), (Value.int .i64 nm), lv, (Value.string (bs []))], 112)] := hW.1
          exact Ok1.obs (fun w' hu => by exact ⟨hM.upd 1 rfl hu, hW.2.1.mv hu.ch (fun y hy => by simp; exact fun e => hne4 y hy e.symm), IsNs.mv hu.ch (by simp) (fun x hx => .inl hx) _ _ hW.2.2⟩) (ok_store1 (v := (Value.string (bs (txt (.mk k nm (ks.map nrm)))))) sz9 rfl rfl rfl (hM.at 1 rfl) (Nat.le_of_ble_eq_true rfl))
      · intro a w vs hW _ hF
        have hM : Mem w0 w [(b1, #[(Value.int .i64 k), (Value.int .i64 nm), (Value.slice ad ks.length cap)], 26), (b4, #[(Value.int .i64 k), (Value.int .i64 nm), lv, (Value.string (bs (txt (.mk k nm (ks.map nrm)))))], 112)] := hW.1
        have hown := hW.2.1
        have hns := hW.2.2
        have hF := hF.sub (L' := [(1, (Value.pointer (some ⟨b1, 0, none⟩))), (3, lv), (6, (Value.pointer (some ⟨b4, 0, none⟩))), (8, (Value.slice ad ks.length cap)), (9, (Value.int .i64 (ks.length : Int))), (10, (Value.int .i64 (i : Int))), (11, (Value.bool (decide ((i : Int) < (ks.length : Int))))), (27, (Value.bool (decide (k = 1))))]) ⟨rfl, rfl, rfl, rfl, rfl, rfl, rfl, rfl, trivial⟩
        refine then_n ?_
        refine wp_seq ?_
        refine wp_region_lit ?_
        refine wl (d_move rfl) rfl hF (fun a hF => ?_)
        refine wl (d_assign rfl) rfl hF (fun a hF => ?_)
        refine wl_nil ?_
        have hF := hF.sub (L' := [(1, (Value.pointer (some ⟨b1, 0, none⟩))), (2, (Value.pointer (some ⟨b4, 0, none⟩))), (3, lv), (6, (Value.pointer (some ⟨b4, 0, none⟩))), (8, (Value.slice ad ks.length cap)), (9, (Value.int .i64 (ks.length : Int))), (10, (Value.int .i64 (i : Int))), (11, (Value.bool (decide ((i : Int) < (ks.length : Int))))), (27, (Value.bool (decide (k = 1))))]) ⟨rfl, rfl, rfl, rfl, rfl, rfl, rfl, rfl, rfl, trivial⟩
        refine then_n ?_
        refine wp_ret ?_
        refine body_ret hF (results1 Tryd.results46 (RV.tmp hF rfl)) ?_
        have hnX : ∀ x, x ∈ X → ¬ w0.heap.size ≤ x := fun x hx => by have := hX x hx; omega
        refine ⟨IsN.mk' (fun hx => hnX _ hx (hM.new _ (List.mem_cons_of_mem _ (List.mem_cons_self ..)))) (hM.at 1 rfl) (by simp [hk1]) hown (fun y hy hx => hnX y hx (hown.lt y hy).1) (IsNs.mv (Ch.refl [] _) (by simp) (fun x hx => .inl (by simp [hx])) _ _ hns), hM.below⟩
    · have hk1 := of_decide_eq_false h
      clear h
      have hwk : WrK T0 k 0 (ks.map nrm) := by have h_ := hw; rw [if_neg hk1] at h_; exact h_
      refine wp_skip ?_
      refine then_n ?_
      refine wp_seq ?_
      refine region_plan Tt mo (fun ph_ w => Mem w0 w (([[(b1, #[(Value.int .i64 k), (Value.int .i64 nm), (Value.slice ad ks.length cap)], 26), (b4, #[(Value.int .i64 k), (Value.int .i64 0), lv, (Value.string (bs []))], 112)], [(b1, #[(Value.int .i64 k), (Value.int .i64 nm), (Value.slice ad ks.length cap)], 26), (b4, #[(Value.int .i64 k), (Value.int .i64 0), lv, (Value.string (bs (txt (.mk k 0 (ks.map nrm)))))], 112)]] : List (List Blk)).getD ph_ []) ∧ Own w w0.heap.size 83 1 lv ks.length ps ∧ IsNs w (b4 :: (oblk lv ++ X)) (ks.map nrm) ps) [13] (rows := [⟨[], [(6, (Value.pointer (some ⟨b4, 0, none⟩)))], [0], .val (Value.pointer (some ⟨b4, 0, none⟩))⟩, ⟨[], [(6, (Value.pointer (some ⟨b4, 0, none⟩)))], [0], .val (Value.pointer (some ⟨b4, 0, none⟩))⟩, ⟨[(1, 34)], [], [0], .val (Value.pointer (some ⟨b4, 0, none⟩))⟩, ⟨[(2, 35)], [], [0], .val (Value.pointer (some ⟨b4, 0, none⟩))⟩, ⟨[(3, 36)], [], [0], .val (Value.int .i64 k)⟩, ⟨[], [(6, (Value.pointer (some ⟨b4, 0, none⟩)))], [0], .val (Value.pointer (some ⟨b4, 0, none⟩))⟩, ⟨[(5, 38)], [], [0], .val (Value.pointer (some ⟨b4, 0, none⟩))⟩, ⟨[(6, 39)], [], [0], .val (Value.pointer (some ⟨b4, 1, none⟩))⟩, ⟨[(7, 40)], [], [0], .val (Value.int .i64 0)⟩, ⟨[], [(3, lv)], [0], .val lv⟩, ⟨[(4, 37), (8, 41), (9, 42)], [], [0], .val (Value.string (bs (txt (.mk k 0 (ks.map nrm)))))⟩, ⟨[(0, 33)], [], [0], .val (Value.pointer (some ⟨b4, 0, none⟩))⟩, ⟨[(11, 44)], [], [0], .val (Value.pointer (some ⟨b4, 3, none⟩))⟩, ⟨[(12, 45), (10, 43)], [], [0], .rel (fun _ _ => True) (fun _ _ _ _ _ => trivial)⟩]) (by kernel_rfl) hF ⟨hM.drew, hown.mv (Ch.drew _) (by simp), IsNs.mv (Ch.drew _) (by simp) (fun x hx => .inl hx) _ _ hns⟩ ?_ ?_
      · refine ⟨?_, ?_, ?_, ?_, ?_, ?_, ?_, ?_, ?_, ?_, ?_, ?_, ?_, ?_, trivial⟩
        · exact ⟨⟨rfl, trivial⟩, fun ph_ _ vs w hW _ => Det.ob hW (d_move rfl)⟩
        · exact ⟨⟨rfl, trivial⟩, fun ph_ _ vs w hW _ => Det.ob hW (d_move rfl)⟩
        · exact ⟨trivial, fun ph_ _ vs w hW _ => Det.ob hW (d_nil rfl)⟩
        · exact ⟨trivial, fun ph_ _ vs w hW _ => Det.ob hW (d_fieldAddrQ Tryd.underlying112 (m := 0) sz3 rfl rfl rfl)⟩
        · refine ⟨trivial, fun ph_ hp_ vs w hW _ => ?_⟩
          obtain rfl := memN_one hp_
          have hM : Mem w0 w [(b1, #[(Value.int .i64 k), (Value.int .i64 nm), (Value.slice ad ks.length cap)], 26), (b4, #[(Value.int .i64 k), (Value.int .i64 0), lv, (Value.string (bs []))], 112)] := hW.1
          exact Det.ob hW (d_load1 Tryd.underlying3 rfl rfl (hM.cell 1 rfl rfl))
        · exact ⟨⟨rfl, trivial⟩, fun ph_ _ vs w hW _ => Det.ob hW (d_move rfl)⟩
        · exact ⟨trivial, fun ph_ _ vs w hW _ => Det.ob hW (d_nil rfl)⟩
        · exact ⟨trivial, fun ph_ _ vs w hW _ => Det.ob hW (d_fieldAddrQ Tryd.underlying112 (m := 0) sz3 rfl rfl rfl)⟩
        · refine ⟨trivial, fun ph_ hp_ vs w hW _ => ?_⟩
          obtain rfl := memN_one hp_
          have hM : Mem w0 w [(b1, #[(Value.int .i64 k), (Value.int .i64 nm), (Value.slice ad ks.length cap)], 26), (b4, #[(Value.int .i64 k), (Value.int .i64 0), lv, (Value.string (bs []))], 112)] := hW.1
          exact Det.ob hW (d_load1 Tryd.underlying3 rfl rfl (hM.cell 1 rfl rfl))
        · exact ⟨⟨rfl, trivial⟩, fun ph_ _ vs w hW _ => Det.ob hW (d_move rfl)⟩
        · refine ⟨trivial, fun ph_ hp_ vs w hW _ => ?_⟩
          obtain rfl := memN_one hp_
          have hM : Mem w0 w [(b1, #[(Value.int .i64 k), (Value.int .i64 nm), (Value.slice ad ks.length cap)], 26), (b4, #[(Value.int .i64 k), (Value.int .i64 0), lv, (Value.string (bs []))], 112)] := hW.1
          exact Ok1.obc (fun w' g => ⟨Mem.call hW.1 g, hW.2.1.mv (Gr.ch g) (by simp), IsNs.mv (Gr.ch g) (by simp) (fun x hx => .inl hx) _ _ hW.2.2⟩) (ok_call c83 rfl (written_own hT hjoin hwk _ (Nat.le_trans hnb hM.below.size) (hT _ _ (hM.below.mono hnb) hw0) hW.2.1 (by simp) hW.2.2))
        · exact ⟨trivial, fun ph_ _ vs w hW _ => Det.ob hW (d_nil rfl)⟩
        · exact ⟨trivial, fun ph_ _ vs w hW _ => Det.ob hW (d_fieldAddrQ Tryd.underlying112 (m := 0) sz9 rfl rfl rfl)⟩
        · refine ⟨trivial, fun ph_ hp_ vs w hW _ => ?_⟩
          obtain rfl := memN_one hp_
          have hM : Mem w0 w [(b1, #[(Value.int .i64 k), (Value.int .i64 nm), (Value.slice ad ks.length cap)], 26), (b4, #[(Value.int .i64 k), (Value.int .i64 0), lv, (Value.string (bs []))], 112)] := hW.1
          exact Ok1.obs (fun w' hu => by exact ⟨hM.upd 1 rfl hu, hW.2.1.mv hu.ch (fun y hy => by simp; exact fun e => hne4 y hy e.symm), IsNs.mv hu.ch (by simp) (fun x hx => .inl hx) _ _ hW.2.2⟩) (ok_store1 (v := (Value.string (bs (txt (.mk k 0 (ks.map nrm)))))) sz9 rfl rfl rfl (hM.at 1 rfl) (Nat.le_of_ble_eq_true rfl))
      · intro a w vs hW _ hF
        have hM : Mem w0 w [(b1, #[(Value.int .i64 k), (Value.int .i64 nm), (Value.slice ad ks.length cap)], 26), (b4, #[(Value.int .i64 k), (Value.int .i64 0), lv, (Value.string (bs (txt (.mk k 0 (ks.map nrm)))))], 112)] := hW.1
        have hown := hW.2.1
        have hns := hW.2.2
        have hF := hF.sub (L' := [(1, (Value.pointer (some ⟨b1, 0, none⟩))), (3, lv), (6, (Value.pointer (some ⟨b4, 0, none⟩))), (8, (Value.slice ad ks.length cap)), (9, (Value.int .i64 (ks.length : Int))), (10, (Value.int .i64 (i : Int))), (11, (Value.bool (decide ((i : Int) < (ks.length : Int))))), (27, (Value.bool (decide (k = 1))))]) ⟨rfl, rfl, rfl, rfl, rfl, rfl, rfl, rfl, trivial⟩
        refine then_n ?_
        refine wp_seq ?_
        refine wp_region_lit ?_
        refine wl (d_move rfl) rfl hF (fun a hF => ?_)
        refine wl (d_assign rfl) rfl hF (fun a hF => ?_)
        refine wl_nil ?_
        have hF := hF.sub (L' := [(1, (Value.pointer (some ⟨b1, 0, none⟩))), (2, (Value.pointer (some ⟨b4, 0, none⟩))), (3, lv), (6, (Value.pointer (some ⟨b4, 0, none⟩))), (8, (Value.slice ad ks.length cap)), (9, (Value.int .i64 (ks.length : Int))), (10, (Value.int .i64 (i : Int))), (11, (Value.bool (decide ((i : Int) < (ks.length : Int))))), (27, (Value.bool (decide (k = 1))))]) ⟨rfl, rfl, rfl, rfl, rfl, rfl, rfl, rfl, rfl, trivial⟩
        refine then_n ?_
        refine wp_ret ?_
        refine body_ret hF (results1 Tryd.results46 (RV.tmp hF rfl)) ?_
        have hnX : ∀ x, x ∈ X → ¬ w0.heap.size ≤ x := fun x hx => by have := hX x hx; omega
        refine ⟨IsN.mk' (fun hx => hnX _ hx (hM.new _ (List.mem_cons_of_mem _ (List.mem_cons_self ..)))) (hM.at 1 rfl) (by simp [hk1]) hown (fun y hy hx => hnX y hx (hown.lt y hy).1) (IsNs.mv (Ch.refl [] _) (by simp) (fun x hx => .inl (by simp [hx])) _ _ hns), hM.below⟩
theorem nodeOf_calls {T0 : World → Prop} {nb : Nat} (hT : ∀ w w', Below nb w w' → T0 w → T0 w') (hjoin : JoinOk) (t : Tm) : WrT T0 t → ∀ (X : List Nat) (vs : List Value) (w : World), nb ≤ w.heap.size → T0 w → (∀ x, x ∈ X → x < w.heap.size) → IsT w X t vs → Calls Tryd.prog 46 (List.toArray [.agg vs.toArray]) w (Ret fun v w' => IsN w' X (nrm t) v ∧ Gr w w') := by
  refine Tm.ind (p := fun t => WrT T0 t → ∀ (X : List Nat) (vs : List Value) (w : World), nb ≤ w.heap.size → T0 w → (∀ x, x ∈ X → x < w.heap.size) → IsT w X t vs → Calls Tryd.prog 46 (List.toArray [.agg vs.toArray]) w (Ret fun v w' => IsN w' X (nrm t) v ∧ Gr w w')) ?_ t
  intro k nm ks ih hwr X vs w hnb hw0 hX ht
  simp only [WrT] at hwr
  simp only [IsT] at ht
  obtain ⟨sl, xs, rfl, h1, h2⟩ := ht
  obtain ⟨ad, cap, rfl, h3⟩ := h1.form
  exact nodeOf_step hT hjoin hwr.1 hwr.2.1 (fun u hu => ih u hu (hwr.2.2.at u hu)) w hnb hw0 hX h3 h2
end Go.Mi.Term
