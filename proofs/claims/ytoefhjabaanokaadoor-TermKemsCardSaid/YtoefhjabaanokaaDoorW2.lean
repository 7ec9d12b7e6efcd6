/- Walks: what functions of term return. -/
import Derived.Test.YtoefhjabaanokaaDoorTf
import Derived.Test.YtoefhjabaanokaaDoorW1
namespace Go.Mi.Term
open Go.Mi Go.Proofs Go.RowKit
set_option maxRecDepth 100000 in
theorem Size_calls {t : Tm} {X : List Nat} {k nm : Int} {ad : Option Addr} {l cap : Nat} (w0 : World) (ht : IsT w0 X t [.int .i64 k, .int .i64 nm, .slice ad l cap]) : Calls Tryd.prog 77 (List.toArray [.agg #[.int .i64 k, .int .i64 nm, .slice ad l cap]]) w0 (Ret fun v w' => v = .int .i64 (size t) ∧ Gr w0 w') := by
  refine calls_of Tryd.func77 rfl Tryd.ntmps77 rfl fun a hF => ?_
  have hM := Mem.start w0
  have hF := hF.sub (L' := [(0, (Value.agg (#[(Value.int .i64 k), (Value.int .i64 nm), (Value.slice ad l cap)])))]) ⟨rfl, trivial⟩
  refine wp_seq ?_
  refine wp_region_lit ?_
  refine wlR (ok_box rfl) rfl hF ?_
  rintro _ w a ⟨b1, rfl, hnb_⟩ hF
  have hM : Mem w0 w [(b1, #[(Value.int .i64 k), (Value.int .i64 nm), (Value.slice ad l cap)], 26)] := hM.alloc hnb_
  refine wl (d_assign rfl) rfl hF (fun a hF => ?_)
  refine wl_nil ?_
  have hF := hF.sub (L' := [(0, (Value.agg (#[(Value.int .i64 k), (Value.int .i64 nm), (Value.slice ad l cap)]))), (1, (Value.pointer (some ⟨b1, 0, none⟩))), (2, (Value.int .i64 0))]) ⟨rfl, rfl, rfl, trivial⟩
  refine then_n ?_
  refine wp_seq ?_
  refine wp_region_lit ?_
  refine wl (d_loadA Tryd.underlying26 rfl sz26 rfl (hM.at 0 rfl) rfl) rfl hF (fun a hF => ?_)
  refine wlR (ok_call c93 rfl (counted_calls t X _ 0 _ (IsT.mv (Gr.ch hM.below) (by simp) (fun x hx => .inl hx) t _ ht) (by omega))) rfl hF ?_
  rintro _ w a ⟨rfl, hg⟩ hF
  have hM := hM.call hg
  refine wl (d_min (r := ((size t : Nat) : Int)) rfl rfl (by simp only [size]; split <;> omega)) rfl hF (fun a hF => ?_)
  refine wl (d_assign rfl) rfl hF (fun a hF => ?_)
  refine wl_nil ?_
  have hF := hF.sub (L' := [(0, (Value.agg (#[(Value.int .i64 k), (Value.int .i64 nm), (Value.slice ad l cap)]))), (1, (Value.pointer (some ⟨b1, 0, none⟩))), (2, (Value.int .i64 ((size t : Nat) : Int)))]) ⟨rfl, rfl, rfl, trivial⟩
  refine then_n ?_
  refine wp_ret ?_
  refine body_ret hF (results1 Tryd.results77 (RV.tmp hF rfl)) ?_
  exact ⟨rfl, hM.below⟩

set_option maxRecDepth 100000 in
theorem shaped_step {k nm : Int} {ks : List Tm} (ih : ∀ t, t ∈ ks → ∀ (X : List Nat) (vs : List Value) (d : Nat) (w : World), IsT w X t vs → d ≤ 1000 → Calls Tryd.prog 78 (List.toArray [.agg vs.toArray, .int .i64 d]) w (Ret fun v w' => v = .bool (shaped t d) ∧ Gr w w'))
    {X : List Nat} {ad : Option Addr} {cap : Nat} {xs : List Value} (d : Nat) (hd : d ≤ 1000) (w0 : World) (hsl : 0 < ks.length → ∃ b o, ad = some ⟨b, o, none⟩ ∧ b ∉ X ∧ At w0 b o xs) (hks : IsTs w0 X ks xs) :
    Calls Tryd.prog 78 (List.toArray [.agg #[.int .i64 k, .int .i64 nm, .slice ad ks.length cap], .int .i64 d]) w0 (Ret fun v w' => v = .bool (shaped (.mk k nm ks) d) ∧ Gr w0 w') := by
  refine calls_of Tryd.func78 rfl Tryd.ntmps78 rfl fun a hF => ?_
  have hM := Mem.start w0
  have hF := hF.sub (L' := [(0, (Value.agg (#[(Value.int .i64 k), (Value.int .i64 nm), (Value.slice ad ks.length cap)]))), (1, (Value.int .i64 (d : Int)))]) ⟨rfl, rfl, trivial⟩
  refine wp_seq ?_
  refine wp_region_lit ?_
  refine wlR (ok_box rfl) rfl hF ?_
  rintro _ w a ⟨b1, rfl, hnb_⟩ hF
  have hM : Mem w0 w [(b1, #[(Value.int .i64 k), (Value.int .i64 nm), (Value.slice ad ks.length cap)], 26)] := hM.alloc hnb_
  refine wl (d_assign rfl) rfl hF (fun a hF => ?_)
  refine wl_nil ?_
  have hF := hF.sub (L' := [(0, (Value.agg (#[(Value.int .i64 k), (Value.int .i64 nm), (Value.slice ad ks.length cap)]))), (1, (Value.int .i64 (d : Int))), (2, (Value.pointer (some ⟨b1, 0, none⟩))), (4, (Value.bool false))]) ⟨rfl, rfl, rfl, rfl, trivial⟩
  refine then_n ?_
  refine wp_seq ?_
  refine wp_region_lit ?_
  refine wl (d_assign rfl) rfl hF (fun a hF => ?_)
  refine wl (d_assign rfl) rfl hF (fun a hF => ?_)
  refine wl_nil ?_
  have hF := hF.sub (L' := [(0, (Value.agg (#[(Value.int .i64 k), (Value.int .i64 nm), (Value.slice ad ks.length cap)]))), (1, (Value.int .i64 (d : Int))), (2, (Value.pointer (some ⟨b1, 0, none⟩))), (4, (Value.bool false)), (5, (Value.int .i64 2)), (6, (Value.int .i64 2))]) ⟨rfl, rfl, rfl, rfl, rfl, rfl, trivial⟩
  refine then_n ?_
  refine wp_seq ?_
  refine wp_seq ?_
  refine wp_region_lit ?_
  refine wl (d_fieldAddrQ Tryd.underlying26 (m := 0) sz3 rfl rfl rfl) rfl hF (fun a hF => ?_)
  refine wl (d_load1 Tryd.underlying3 rfl rfl (hM.cell 0 rfl rfl)) rfl hF (fun a hF => ?_)
  refine wl_nil ?_
  have hF := hF.sub (L' := [(0, (Value.agg (#[(Value.int .i64 k), (Value.int .i64 nm), (Value.slice ad ks.length cap)]))), (1, (Value.int .i64 (d : Int))), (2, (Value.pointer (some ⟨b1, 0, none⟩))), (4, (Value.bool false)), (5, (Value.int .i64 2)), (6, (Value.int .i64 2)), (10, (Value.int .i64 k))]) ⟨rfl, rfl, rfl, rfl, rfl, rfl, rfl, trivial⟩
  refine then_n ?_
  refine wp_block ?_
  refine wp_seq ?_
  refine wp_region_lit ?_
  refine wl (d_eql rfl rfl) rfl hF (fun a hF => ?_)
  refine wl (d_assign rfl) rfl hF (fun a hF => ?_)
  refine wl_nil ?_
  have hF := hF.sub (L' := [(0, (Value.agg (#[(Value.int .i64 k), (Value.int .i64 nm), (Value.slice ad ks.length cap)]))), (1, (Value.int .i64 (d : Int))), (2, (Value.pointer (some ⟨b1, 0, none⟩))), (4, (Value.bool false)), (5, (Value.int .i64 2)), (6, (Value.int .i64 2)), (10, (Value.int .i64 k)), (19, (Value.bool (decide (k = 1))))]) ⟨rfl, rfl, rfl, rfl, rfl, rfl, rfl, rfl, trivial⟩
  refine then_n ?_
  refine wp_if hF rfl (fun h => ?_) (fun h => ?_)
  · have hk1 := of_decide_eq_true h
    clear h
    have hlo : low k = 0 := (by simp [low, high, hk1])
    have hhi : high k = 0 := (by simp [low, high, hk1])
    refine wp_seq ?_
    refine wp_region_lit ?_
    refine wl (d_assign rfl) rfl hF (fun a hF => ?_)
    refine wl (d_assign rfl) rfl hF (fun a hF => ?_)
    refine wl_nil ?_
    have hF := hF.sub (L' := [(0, (Value.agg (#[(Value.int .i64 k), (Value.int .i64 nm), (Value.slice ad ks.length cap)]))), (1, (Value.int .i64 (d : Int))), (2, (Value.pointer (some ⟨b1, 0, none⟩))), (4, (Value.bool false)), (5, (Value.int .i64 0)), (6, (Value.int .i64 0)), (10, (Value.int .i64 k)), (19, (Value.bool (decide (k = 1))))]) ⟨rfl, rfl, rfl, rfl, rfl, rfl, rfl, rfl, trivial⟩
    refine then_n ?_
    refine wp_seq ?_
    refine wp_region_lit ?_
    refine wl (d_fieldAddrQ Tryd.underlying26 (m := 0) sz3 rfl rfl rfl) rfl hF (fun a hF => ?_)
    refine wl (d_load1 Tryd.underlying3 rfl rfl (hM.cell 0 rfl rfl)) rfl hF (fun a hF => ?_)
    refine wl (d_lss rfl rfl) rfl hF (fun a hF => ?_)
    refine wl (d_move rfl) rfl hF (fun a hF => ?_)
    by_cases hnm : nm < 0
    · have hdec_ : decide (nm < 0) = true := decide_eq_true hnm
      rw [hdec_] at hF
      refine wlgs (c := true) rfl rfl rfl hF (fun a hF => ?_)
      refine wlgs (c := true) rfl rfl rfl hF (fun a hF => ?_)
      refine wlgs (c := true) rfl rfl rfl hF (fun a hF => ?_)
      refine wl (d_pick (b := true) rfl rfl) rfl hF (fun a hF => ?_)
      refine wl_nil ?_
      have hF := hF.sub (L' := [(0, (Value.agg (#[(Value.int .i64 k), (Value.int .i64 nm), (Value.slice ad ks.length cap)]))), (1, (Value.int .i64 (d : Int))), (2, (Value.pointer (some ⟨b1, 0, none⟩))), (4, (Value.bool false)), (5, (Value.int .i64 0)), (6, (Value.int .i64 0)), (10, (Value.int .i64 k)), (19, (Value.bool (decide (k = 1)))), (28, (Value.bool true))]) ⟨rfl, rfl, rfl, rfl, rfl, rfl, rfl, rfl, rfl, trivial⟩
      refine then_n ?_
      refine wp_cond_true (hF.eval rfl) ?_
      refine wp_seq ?_
      refine wp_region_lit ?_
      refine wl (d_assign rfl) rfl hF (fun a hF => ?_)
      refine wl_nil ?_
      have hF := hF.sub (L' := [(0, (Value.agg (#[(Value.int .i64 k), (Value.int .i64 nm), (Value.slice ad ks.length cap)]))), (1, (Value.int .i64 (d : Int))), (2, (Value.pointer (some ⟨b1, 0, none⟩))), (4, (Value.bool false)), (5, (Value.int .i64 0)), (6, (Value.int .i64 0)), (10, (Value.int .i64 k)), (19, (Value.bool (decide (k = 1)))), (28, (Value.bool true))]) ⟨rfl, rfl, rfl, rfl, rfl, rfl, rfl, rfl, rfl, trivial⟩
      refine then_n ?_
      refine wp_ret ?_
      refine block_ret ?_
      refine then_ret ?_
      refine body_ret hF (results1 Tryd.results78 (RV.tmp hF rfl)) ?_
      first | exact ⟨by rw [shaped_no1 (by omega)], hM.below⟩ | exact ⟨by rw [shaped_no2 hlo hhi (by omega)], hM.below⟩ | exact ⟨by rw [shaped_no3 hfalse], hM.below⟩ | exact ⟨by rw [shaped_yes (by omega) hlo hhi (by omega) hfin], hM.below⟩
    · have hdec_ : decide (nm < 0) = false := decide_eq_false hnm
      rw [hdec_] at hF
      refine wlg rfl (d_fieldAddrQ Tryd.underlying26 (m := 0) sz3 rfl rfl rfl) rfl hF (fun a hF => ?_)
      refine wlg rfl (d_load1 Tryd.underlying3 rfl rfl (hM.cell 0 rfl rfl)) rfl hF (fun a hF => ?_)
      refine wlg rfl (d_gtr rfl rfl) rfl hF (fun a hF => ?_)
      refine wl (d_pick (b := false) rfl rfl) rfl hF (fun a hF => ?_)
      refine wl_nil ?_
      have hF := hF.sub (L' := [(0, (Value.agg (#[(Value.int .i64 k), (Value.int .i64 nm), (Value.slice ad ks.length cap)]))), (1, (Value.int .i64 (d : Int))), (2, (Value.pointer (some ⟨b1, 0, none⟩))), (4, (Value.bool false)), (5, (Value.int .i64 0)), (6, (Value.int .i64 0)), (10, (Value.int .i64 k)), (19, (Value.bool (decide (k = 1)))), (28, (Value.bool (decide (1073741824 < nm))))]) ⟨rfl, rfl, rfl, rfl, rfl, rfl, rfl, rfl, rfl, trivial⟩
      refine then_n ?_
      refine wp_if hF rfl (fun h => ?_) (fun h => ?_)
      · have hnh := of_decide_eq_true h
        clear h
        refine wp_seq ?_
        refine wp_region_lit ?_
        refine wl (d_assign rfl) rfl hF (fun a hF => ?_)
        refine wl_nil ?_
        have hF := hF.sub (L' := [(0, (Value.agg (#[(Value.int .i64 k), (Value.int .i64 nm), (Value.slice ad ks.length cap)]))), (1, (Value.int .i64 (d : Int))), (2, (Value.pointer (some ⟨b1, 0, none⟩))), (4, (Value.bool false)), (5, (Value.int .i64 0)), (6, (Value.int .i64 0)), (10, (Value.int .i64 k)), (19, (Value.bool (decide (k = 1)))), (28, (Value.bool (decide (1073741824 < nm))))]) ⟨rfl, rfl, rfl, rfl, rfl, rfl, rfl, rfl, rfl, trivial⟩
        refine then_n ?_
        refine wp_ret ?_
        refine block_ret ?_
        refine then_ret ?_
        refine body_ret hF (results1 Tryd.results78 (RV.tmp hF rfl)) ?_
        first | exact ⟨by rw [shaped_no1 (by omega)], hM.below⟩ | exact ⟨by rw [shaped_no2 hlo hhi (by omega)], hM.below⟩ | exact ⟨by rw [shaped_no3 hfalse], hM.below⟩ | exact ⟨by rw [shaped_yes (by omega) hlo hhi (by omega) hfin], hM.below⟩
      · have hnh := of_decide_eq_false h
        clear h
        refine wp_skip ?_
        refine block_n ?_
        refine then_n ?_
        refine wp_seq ?_
        refine wp_seq ?_
        refine wp_region_lit ?_
        refine wl (d_move rfl) rfl hF (fun a hF => ?_)
        refine wl (d_geq rfl rfl) rfl hF (fun a hF => ?_)
        refine wl (d_move rfl) rfl hF (fun a hF => ?_)
        by_cases hdd : 100 ≤ (d : Int)
        · have hdec_ : decide (100 ≤ (d : Int)) = true := decide_eq_true hdd
          rw [hdec_] at hF
          refine wlgs (c := true) rfl rfl rfl hF (fun a hF => ?_)
          refine wlgs (c := true) rfl rfl rfl hF (fun a hF => ?_)
          refine wlgs (c := true) rfl rfl rfl hF (fun a hF => ?_)
          refine wlgs (c := true) rfl rfl rfl hF (fun a hF => ?_)
          refine wlgs (c := true) rfl rfl rfl hF (fun a hF => ?_)
          refine wl (d_pick (b := true) rfl rfl) rfl hF (fun a hF => ?_)
          refine wl (d_move rfl) rfl hF (fun a hF => ?_)
          refine wlgs (c := true) rfl rfl rfl hF (fun a hF => ?_)
          refine wlgs (c := true) rfl rfl rfl hF (fun a hF => ?_)
          refine wlgs (c := true) rfl rfl rfl hF (fun a hF => ?_)
          refine wlgs (c := true) rfl rfl rfl hF (fun a hF => ?_)
          refine wlgs (c := true) rfl rfl rfl hF (fun a hF => ?_)
          refine wl (d_pick (b := true) rfl rfl) rfl hF (fun a hF => ?_)
          refine wl_nil ?_
          have hF := hF.sub (L' := [(0, (Value.agg (#[(Value.int .i64 k), (Value.int .i64 nm), (Value.slice ad ks.length cap)]))), (1, (Value.int .i64 (d : Int))), (2, (Value.pointer (some ⟨b1, 0, none⟩))), (4, (Value.bool false)), (5, (Value.int .i64 0)), (6, (Value.int .i64 0)), (10, (Value.int .i64 k)), (19, (Value.bool (decide (k = 1)))), (28, (Value.bool (decide (1073741824 < nm)))), (48, (Value.bool true))]) ⟨rfl, rfl, rfl, rfl, rfl, rfl, rfl, rfl, rfl, rfl, trivial⟩
          refine then_n ?_
          refine wp_cond_true (hF.eval rfl) ?_
          refine wp_seq ?_
          refine wp_region_lit ?_
          refine wl (d_assign rfl) rfl hF (fun a hF => ?_)
          refine wl_nil ?_
          have hF := hF.sub (L' := [(0, (Value.agg (#[(Value.int .i64 k), (Value.int .i64 nm), (Value.slice ad ks.length cap)]))), (1, (Value.int .i64 (d : Int))), (2, (Value.pointer (some ⟨b1, 0, none⟩))), (4, (Value.bool false)), (5, (Value.int .i64 0)), (6, (Value.int .i64 0)), (10, (Value.int .i64 k)), (19, (Value.bool (decide (k = 1)))), (28, (Value.bool (decide (1073741824 < nm)))), (48, (Value.bool true))]) ⟨rfl, rfl, rfl, rfl, rfl, rfl, rfl, rfl, rfl, rfl, trivial⟩
          refine then_n ?_
          refine wp_ret ?_
          refine then_ret ?_
          refine body_ret hF (results1 Tryd.results78 (RV.tmp hF rfl)) ?_
          first | exact ⟨by rw [shaped_no1 (by omega)], hM.below⟩ | exact ⟨by rw [shaped_no2 hlo hhi (by omega)], hM.below⟩ | exact ⟨by rw [shaped_no3 hfalse], hM.below⟩ | exact ⟨by rw [shaped_yes (by omega) hlo hhi (by omega) hfin], hM.below⟩
        · have hdec_ : decide (100 ≤ (d : Int)) = false := decide_eq_false hdd
          rw [hdec_] at hF
          refine wlg rfl (d_fieldAddrQ Tryd.underlying26 (m := 0) sz24 rfl rfl rfl) rfl hF (fun a hF => ?_)
          refine wlg rfl (d_load1 Tryd.underlying24 rfl rfl (hM.cell 0 rfl rfl)) rfl hF (fun a hF => ?_)
          refine wlg rfl (d_len_slice Tryd.underlying24 rfl) rfl hF (fun a hF => ?_)
          refine wlg rfl (d_move rfl) rfl hF (fun a hF => ?_)
          refine wlg rfl (d_lss rfl rfl) rfl hF (fun a hF => ?_)
          refine wl (d_pick (b := false) rfl rfl) rfl hF (fun a hF => ?_)
          refine wl (d_move rfl) rfl hF (fun a hF => ?_)
          by_cases hlow : (ks.length : Int) < 0
          · have hdec_ : decide ((ks.length : Int) < 0) = true := decide_eq_true hlow
            rw [hdec_] at hF
            refine wlgs (c := true) rfl rfl rfl hF (fun a hF => ?_)
            refine wlgs (c := true) rfl rfl rfl hF (fun a hF => ?_)
            refine wlgs (c := true) rfl rfl rfl hF (fun a hF => ?_)
            refine wlgs (c := true) rfl rfl rfl hF (fun a hF => ?_)
            refine wlgs (c := true) rfl rfl rfl hF (fun a hF => ?_)
            refine wl (d_pick (b := true) rfl rfl) rfl hF (fun a hF => ?_)
            refine wl_nil ?_
            have hF := hF.sub (L' := [(0, (Value.agg (#[(Value.int .i64 k), (Value.int .i64 nm), (Value.slice ad ks.length cap)]))), (1, (Value.int .i64 (d : Int))), (2, (Value.pointer (some ⟨b1, 0, none⟩))), (4, (Value.bool false)), (5, (Value.int .i64 0)), (6, (Value.int .i64 0)), (10, (Value.int .i64 k)), (19, (Value.bool (decide (k = 1)))), (28, (Value.bool (decide (1073741824 < nm)))), (48, (Value.bool true))]) ⟨rfl, rfl, rfl, rfl, rfl, rfl, rfl, rfl, rfl, rfl, trivial⟩
            refine then_n ?_
            refine wp_cond_true (hF.eval rfl) ?_
            refine wp_seq ?_
            refine wp_region_lit ?_
            refine wl (d_assign rfl) rfl hF (fun a hF => ?_)
            refine wl_nil ?_
            have hF := hF.sub (L' := [(0, (Value.agg (#[(Value.int .i64 k), (Value.int .i64 nm), (Value.slice ad ks.length cap)]))), (1, (Value.int .i64 (d : Int))), (2, (Value.pointer (some ⟨b1, 0, none⟩))), (4, (Value.bool false)), (5, (Value.int .i64 0)), (6, (Value.int .i64 0)), (10, (Value.int .i64 k)), (19, (Value.bool (decide (k = 1)))), (28, (Value.bool (decide (1073741824 < nm)))), (48, (Value.bool true))]) ⟨rfl, rfl, rfl, rfl, rfl, rfl, rfl, rfl, rfl, rfl, trivial⟩
            refine then_n ?_
            refine wp_ret ?_
            refine then_ret ?_
            refine body_ret hF (results1 Tryd.results78 (RV.tmp hF rfl)) ?_
            first | exact ⟨by rw [shaped_no1 (by omega)], hM.below⟩ | exact ⟨by rw [shaped_no2 hlo hhi (by omega)], hM.below⟩ | exact ⟨by rw [shaped_no3 hfalse], hM.below⟩ | exact ⟨by rw [shaped_yes (by omega) hlo hhi (by omega) hfin], hM.below⟩
          · have hdec_ : decide ((ks.length : Int) < 0) = false := decide_eq_false hlow
            rw [hdec_] at hF
            refine wlg rfl (d_fieldAddrQ Tryd.underlying26 (m := 0) sz24 rfl rfl rfl) rfl hF (fun a hF => ?_)
            refine wlg rfl (d_load1 Tryd.underlying24 rfl rfl (hM.cell 0 rfl rfl)) rfl hF (fun a hF => ?_)
            refine wlg rfl (d_len_slice Tryd.underlying24 rfl) rfl hF (fun a hF => ?_)
            refine wlg rfl (d_move rfl) rfl hF (fun a hF => ?_)
            refine wlg rfl (d_gtr rfl rfl) rfl hF (fun a hF => ?_)
            refine wl (d_pick (b := false) rfl rfl) rfl hF (fun a hF => ?_)
            refine wl_nil ?_
            have hF := hF.sub (L' := [(0, (Value.agg (#[(Value.int .i64 k), (Value.int .i64 nm), (Value.slice ad ks.length cap)]))), (1, (Value.int .i64 (d : Int))), (2, (Value.pointer (some ⟨b1, 0, none⟩))), (4, (Value.bool false)), (5, (Value.int .i64 0)), (6, (Value.int .i64 0)), (10, (Value.int .i64 k)), (19, (Value.bool (decide (k = 1)))), (28, (Value.bool (decide (1073741824 < nm)))), (48, (Value.bool (decide (0 < (ks.length : Int)))))]) ⟨rfl, rfl, rfl, rfl, rfl, rfl, rfl, rfl, rfl, rfl, trivial⟩
            refine then_n ?_
            refine wp_if hF rfl (fun h => ?_) (fun h => ?_)
            · have hhigh := of_decide_eq_true h
              clear h
              refine wp_seq ?_
              refine wp_region_lit ?_
              refine wl (d_assign rfl) rfl hF (fun a hF => ?_)
              refine wl_nil ?_
              have hF := hF.sub (L' := [(0, (Value.agg (#[(Value.int .i64 k), (Value.int .i64 nm), (Value.slice ad ks.length cap)]))), (1, (Value.int .i64 (d : Int))), (2, (Value.pointer (some ⟨b1, 0, none⟩))), (4, (Value.bool false)), (5, (Value.int .i64 0)), (6, (Value.int .i64 0)), (10, (Value.int .i64 k)), (19, (Value.bool (decide (k = 1)))), (28, (Value.bool (decide (1073741824 < nm)))), (48, (Value.bool (decide (0 < (ks.length : Int)))))]) ⟨rfl, rfl, rfl, rfl, rfl, rfl, rfl, rfl, rfl, rfl, trivial⟩
              refine then_n ?_
              refine wp_ret ?_
              refine then_ret ?_
              refine body_ret hF (results1 Tryd.results78 (RV.tmp hF rfl)) ?_
              first | exact ⟨by rw [shaped_no1 (by omega)], hM.below⟩ | exact ⟨by rw [shaped_no2 hlo hhi (by omega)], hM.below⟩ | exact ⟨by rw [shaped_no3 hfalse], hM.below⟩ | exact ⟨by rw [shaped_yes (by omega) hlo hhi (by omega) hfin], hM.below⟩
            · have hhigh := of_decide_eq_false h
              clear h
              refine wp_skip ?_
              refine then_n ?_
              refine wp_seq ?_
              refine wp_seq ?_
              refine wp_region_lit ?_
              refine wl (d_fieldAddrQ Tryd.underlying26 (m := 0) sz24 rfl rfl rfl) rfl hF (fun a hF => ?_)
              refine wl (d_load1 Tryd.underlying24 rfl rfl (hM.cell 0 rfl rfl)) rfl hF (fun a hF => ?_)
              refine wl (d_len_slice Tryd.underlying24 rfl) rfl hF (fun a hF => ?_)
              refine wl (d_move rfl) rfl hF (fun a hF => ?_)
              refine wl_nil ?_
              have hF := hF.sub (L' := [(0, (Value.agg (#[(Value.int .i64 k), (Value.int .i64 nm), (Value.slice ad ks.length cap)]))), (1, (Value.int .i64 (d : Int))), (2, (Value.pointer (some ⟨b1, 0, none⟩))), (4, (Value.bool false)), (5, (Value.int .i64 0)), (6, (Value.int .i64 0)), (10, (Value.int .i64 k)), (19, (Value.bool (decide (k = 1)))), (28, (Value.bool (decide (1073741824 < nm)))), (48, (Value.bool (decide (0 < (ks.length : Int))))), (50, (Value.slice ad ks.length cap)), (51, (Value.int .i64 (ks.length : Int))), (52, (Value.int .i64 0))]) ⟨rfl, rfl, rfl, rfl, rfl, rfl, rfl, rfl, rfl, rfl, rfl, rfl, rfl, trivial⟩
              refine then_n ?_
              refine wp_block ?_
              refine wp_loop_k (fun fu_ a w => ∃ (i : Nat), fu_ = ks.length - i ∧ (i ≤ ks.length) ∧ (shapedL (ks.drop i) (d + 1) = shapedL ks (d + 1)) ∧ Frm a 62 [(1, (Value.int .i64 (d : Int))), (2, (Value.pointer (some ⟨b1, 0, none⟩))), (50, (Value.slice ad ks.length cap)), (51, (Value.int .i64 (ks.length : Int))), (52, (Value.int .i64 (i : Int)))] ∧ Mem w0 w [(b1, #[(Value.int .i64 k), (Value.int .i64 nm), (Value.slice ad ks.length cap)], 26)]) _ ⟨0, rfl, (by omega), rfl, hF.sub ⟨rfl, rfl, rfl, rfl, rfl, trivial⟩, ?_⟩ ?_
              · exact hM
              rintro _ a w ⟨i, rfl, hl1_0, hl1_1, hF, hM⟩
              have hle := hl1_0
              have hsh := hl1_1
              refine wp_seq ?_
              refine wp_region_lit ?_
              refine wl (d_lss rfl rfl) rfl hF (fun a hF => ?_)
              refine wl_nil ?_
              have hF := hF.sub (L' := [(1, (Value.int .i64 (d : Int))), (2, (Value.pointer (some ⟨b1, 0, none⟩))), (50, (Value.slice ad ks.length cap)), (51, (Value.int .i64 (ks.length : Int))), (52, (Value.int .i64 (i : Int))), (53, (Value.bool (decide ((i : Int) < (ks.length : Int)))))]) ⟨rfl, rfl, rfl, rfl, rfl, rfl, trivial⟩
              refine then_n ?_
              refine wp_seq ?_
              refine wp_if hF rfl (fun h => ?_) (fun h => ?_)
              · have hlt := of_decide_eq_true h
                clear h
                obtain ⟨b0, o0, hae, hb0, hat0⟩ := hsl (by omega)
                obtain ⟨t1, hi⟩ : ∃ t, ks[i]? = some t := ⟨_, List.getElem?_eq_getElem (by omega)⟩
                have hmem : t1 ∈ ks := List.mem_of_getElem? hi
                obtain ⟨a1, ha1, hat1⟩ := hks.at hat0 i t1 hi
                obtain ⟨k1, nm1, ad1, l1, cap1, rfl⟩ := ha1.form
                refine wp_skip ?_
                refine then_n ?_
                refine wp_seq ?_
                refine wp_block ?_
                refine wp_seq ?_
                refine wp_region_lit ?_
                refine wl (d_ixSm (b := b0) (o := o0) Tryd.underlying24 sz26 (by rw [← hae]; rfl) rfl rfl (by omega)) rfl hF (fun a hF => ?_)
                refine wl (d_loadC Tryd.underlying26 rfl sz26 rfl (hat1.mv (Gr.ch hM.below) (by simp)) rfl) rfl hF (fun a hF => ?_)
                refine wlR (ok_alloc z26) rfl hF ?_
                rintro _ w a ⟨b2, rfl, hnb_⟩ hF
                have hM : Mem w0 w [(b1, #[(Value.int .i64 k), (Value.int .i64 nm), (Value.slice ad ks.length cap)], 26), (b2, #[(Value.int .i64 0), (Value.int .i64 0), (Value.slice none 0 0)], 26)] := hM.alloc hnb_
                refine wl0R (ok_storeA (c' := #[(Value.int .i64 k1), (Value.int .i64 nm1), (Value.slice ad1 l1 cap1)]) sz26 rfl rfl rfl (fun v hv => by simp at hv; rcases hv with rfl | rfl | rfl <;> rfl) (hM.at 1 rfl) rfl) hF ?_
                rintro w a hu hF
                have hM : Mem w0 w [(b1, #[(Value.int .i64 k), (Value.int .i64 nm), (Value.slice ad ks.length cap)], 26), (b2, #[(Value.int .i64 k1), (Value.int .i64 nm1), (Value.slice ad1 l1 cap1)], 26)] := hM.upd 1 rfl hu
                refine wl_nil ?_
                have hF := hF.sub (L' := [(1, (Value.int .i64 (d : Int))), (2, (Value.pointer (some ⟨b1, 0, none⟩))), (8, (Value.pointer (some ⟨b2, 0, none⟩))), (50, (Value.slice ad ks.length cap)), (51, (Value.int .i64 (ks.length : Int))), (52, (Value.int .i64 (i : Int))), (53, (Value.bool (decide ((i : Int) < (ks.length : Int)))))]) ⟨rfl, rfl, rfl, rfl, rfl, rfl, rfl, trivial⟩
                refine then_n ?_
                refine wp_seq ?_
                refine wp_region_lit ?_
                refine wl (d_loadA Tryd.underlying26 rfl sz26 rfl (hM.at 1 rfl) rfl) rfl hF (fun a hF => ?_)
                refine wl (d_move rfl) rfl hF (fun a hF => ?_)
                refine wl (d_add rfl rfl (wrap_i64 (by omega) (by omega))) rfl hF (fun a hF => ?_)
                refine wlR (ok_call c78 rfl (ih t1 hmem X _ (d + 1) _ (IsT.mv (Gr.ch hM.below) (by simp) (fun x hx => .inl hx) t1 _ ha1) (by omega))) rfl hF ?_
                rintro _ w a ⟨rfl, hg⟩ hF
                have hM := hM.call hg
                refine wl (d_not rfl) rfl hF (fun a hF => ?_)
                refine wl_nil ?_
                have hF := hF.sub (L' := [(1, (Value.int .i64 (d : Int))), (2, (Value.pointer (some ⟨b1, 0, none⟩))), (8, (Value.pointer (some ⟨b2, 0, none⟩))), (50, (Value.slice ad ks.length cap)), (51, (Value.int .i64 (ks.length : Int))), (52, (Value.int .i64 (i : Int))), (53, (Value.bool (decide ((i : Int) < (ks.length : Int))))), (60, (Value.bool (!(shaped t1 (d + 1)))))]) ⟨rfl, rfl, rfl, rfl, rfl, rfl, rfl, rfl, trivial⟩
                refine then_n ?_
                refine wp_if hF rfl (fun h => ?_) (fun h => ?_)
                · have hs := h
                  clear h
                  have hfalse : shapedL ks (d + 1) = false := by rw [← hsh, shapedL_drop hi]; simp at hs; simp [hs]
                  refine wp_seq ?_
                  refine wp_region_lit ?_
                  refine wl (d_assign rfl) rfl hF (fun a hF => ?_)
                  refine wl_nil ?_
                  have hF := hF.sub (L' := [(1, (Value.int .i64 (d : Int))), (2, (Value.pointer (some ⟨b1, 0, none⟩))), (4, (Value.bool false)), (8, (Value.pointer (some ⟨b2, 0, none⟩))), (50, (Value.slice ad ks.length cap)), (51, (Value.int .i64 (ks.length : Int))), (52, (Value.int .i64 (i : Int))), (53, (Value.bool (decide ((i : Int) < (ks.length : Int))))), (60, (Value.bool (!(shaped t1 (d + 1)))))]) ⟨rfl, rfl, rfl, rfl, rfl, rfl, rfl, rfl, rfl, trivial⟩
                  refine then_n ?_
                  refine wp_ret ?_
                  refine block_ret ?_
                  refine then_ret ?_
                  refine then_ret ?_
                  refine block_ret ?_
                  refine then_ret ?_
                  refine body_ret hF (results1 Tryd.results78 (RV.tmp hF rfl)) ?_
                  first | exact ⟨by rw [shaped_no1 (by omega)], hM.below⟩ | exact ⟨by rw [shaped_no2 hlo hhi (by omega)], hM.below⟩ | exact ⟨by rw [shaped_no3 hfalse], hM.below⟩ | exact ⟨by rw [shaped_yes (by omega) hlo hhi (by omega) hfin], hM.below⟩
                · have hs := h
                  clear h
                  have hs : shaped t1 (d + 1) = true := by simpa using hs
                  refine wp_skip ?_
                  refine block_n ?_
                  refine then_n ?_
                  refine wp_region_lit ?_
                  refine wl (d_add rfl rfl (wrap_i64 (by omega) (by omega))) rfl hF (fun a hF => ?_)
                  refine wl (d_move rfl) rfl hF (fun a hF => ?_)
                  refine wl_nil ?_
                  have hF := hF.sub (L' := [(1, (Value.int .i64 (d : Int))), (2, (Value.pointer (some ⟨b1, 0, none⟩))), (8, (Value.pointer (some ⟨b2, 0, none⟩))), (50, (Value.slice ad ks.length cap)), (51, (Value.int .i64 (ks.length : Int))), (52, (Value.int .i64 ((i : Int) + 1))), (53, (Value.bool (decide ((i : Int) < (ks.length : Int))))), (60, (Value.bool (!(shaped t1 (d + 1)))))]) ⟨rfl, rfl, rfl, rfl, rfl, rfl, rfl, rfl, trivial⟩
                  refine then_n ?_
                  refine ⟨_, ?_, i + 1, rfl, (by omega), (by rw [← hsh, shapedL_drop hi, hs, Bool.true_and]), hF.sub ⟨rfl, rfl, rfl, rfl, rfl, trivial⟩, ?_⟩
                  · omega
                  exact hM.sub (by simp)
              · have hlt := of_decide_eq_false h
                clear h
                have hi : i = ks.length := by omega
                have hfin : shapedL ks (d + 1) = true := by rw [← hsh, hi, List.drop_length]; rfl
                refine wp_exit ?_
                refine then_exit ?_
                refine then_exit ?_
                refine block_exit ?_
                refine then_n ?_
                refine wp_seq ?_
                refine wp_region_lit ?_
                refine wl (d_assign rfl) rfl hF (fun a hF => ?_)
                refine wl_nil ?_
                have hF := hF.sub (L' := [(1, (Value.int .i64 (d : Int))), (2, (Value.pointer (some ⟨b1, 0, none⟩))), (4, (Value.bool true)), (50, (Value.slice ad ks.length cap)), (51, (Value.int .i64 (ks.length : Int))), (52, (Value.int .i64 (i : Int))), (53, (Value.bool (decide ((i : Int) < (ks.length : Int)))))]) ⟨rfl, rfl, rfl, rfl, rfl, rfl, rfl, trivial⟩
                refine then_n ?_
                refine wp_ret ?_
                refine body_ret hF (results1 Tryd.results78 (RV.tmp hF rfl)) ?_
                first | exact ⟨by rw [shaped_no1 (by omega)], hM.below⟩ | exact ⟨by rw [shaped_no2 hlo hhi (by omega)], hM.below⟩ | exact ⟨by rw [shaped_no3 hfalse], hM.below⟩ | exact ⟨by rw [shaped_yes (by omega) hlo hhi (by omega) hfin], hM.below⟩
  · have hk1 := of_decide_eq_false h
    clear h
    refine wp_seq ?_
    refine wp_region_lit ?_
    refine wl (d_eql rfl rfl) rfl hF (fun a hF => ?_)
    refine wl (d_assign rfl) rfl hF (fun a hF => ?_)
    refine wl_nil ?_
    have hF := hF.sub (L' := [(0, (Value.agg (#[(Value.int .i64 k), (Value.int .i64 nm), (Value.slice ad ks.length cap)]))), (1, (Value.int .i64 (d : Int))), (2, (Value.pointer (some ⟨b1, 0, none⟩))), (4, (Value.bool false)), (5, (Value.int .i64 2)), (6, (Value.int .i64 2)), (10, (Value.int .i64 k)), (19, (Value.bool (decide (k = 1)))), (29, (Value.bool (decide (k = 2))))]) ⟨rfl, rfl, rfl, rfl, rfl, rfl, rfl, rfl, rfl, trivial⟩
    refine then_n ?_
    refine wp_if hF rfl (fun h => ?_) (fun h => ?_)
    · have hk2 := of_decide_eq_true h
      clear h
      have hlo : low k = 1 := (by simp [low, high, hk2])
      have hhi : high k = 1 := (by simp [low, high, hk2])
      refine wp_region_lit ?_
      refine wl (d_assign rfl) rfl hF (fun a hF => ?_)
      refine wl (d_assign rfl) rfl hF (fun a hF => ?_)
      refine wl_nil ?_
      have hF := hF.sub (L' := [(0, (Value.agg (#[(Value.int .i64 k), (Value.int .i64 nm), (Value.slice ad ks.length cap)]))), (1, (Value.int .i64 (d : Int))), (2, (Value.pointer (some ⟨b1, 0, none⟩))), (4, (Value.bool false)), (5, (Value.int .i64 1)), (6, (Value.int .i64 1)), (10, (Value.int .i64 k)), (19, (Value.bool (decide (k = 1)))), (29, (Value.bool (decide (k = 2))))]) ⟨rfl, rfl, rfl, rfl, rfl, rfl, rfl, rfl, rfl, trivial⟩
      refine block_n ?_
      refine then_n ?_
      refine wp_seq ?_
      refine wp_seq ?_
      refine wp_region_lit ?_
      refine wl (d_move rfl) rfl hF (fun a hF => ?_)
      refine wl (d_geq rfl rfl) rfl hF (fun a hF => ?_)
      refine wl (d_move rfl) rfl hF (fun a hF => ?_)
      by_cases hdd : 100 ≤ (d : Int)
      · have hdec_ : decide (100 ≤ (d : Int)) = true := decide_eq_true hdd
        rw [hdec_] at hF
        refine wlgs (c := true) rfl rfl rfl hF (fun a hF => ?_)
        refine wlgs (c := true) rfl rfl rfl hF (fun a hF => ?_)
        refine wlgs (c := true) rfl rfl rfl hF (fun a hF => ?_)
        refine wlgs (c := true) rfl rfl rfl hF (fun a hF => ?_)
        refine wlgs (c := true) rfl rfl rfl hF (fun a hF => ?_)
        refine wl (d_pick (b := true) rfl rfl) rfl hF (fun a hF => ?_)
        refine wl (d_move rfl) rfl hF (fun a hF => ?_)
        refine wlgs (c := true) rfl rfl rfl hF (fun a hF => ?_)
        refine wlgs (c := true) rfl rfl rfl hF (fun a hF => ?_)
        refine wlgs (c := true) rfl rfl rfl hF (fun a hF => ?_)
        refine wlgs (c := true) rfl rfl rfl hF (fun a hF => ?_)
        refine wlgs (c := true) rfl rfl rfl hF (fun a hF => ?_)
        refine wl (d_pick (b := true) rfl rfl) rfl hF (fun a hF => ?_)
        refine wl_nil ?_
        have hF := hF.sub (L' := [(0, (Value.agg (#[(Value.int .i64 k), (Value.int .i64 nm), (Value.slice ad ks.length cap)]))), (1, (Value.int .i64 (d : Int))), (2, (Value.pointer (some ⟨b1, 0, none⟩))), (4, (Value.bool false)), (5, (Value.int .i64 1)), (6, (Value.int .i64 1)), (10, (Value.int .i64 k)), (19, (Value.bool (decide (k = 1)))), (29, (Value.bool (decide (k = 2)))), (48, (Value.bool true))]) ⟨rfl, rfl, rfl, rfl, rfl, rfl, rfl, rfl, rfl, rfl, trivial⟩
        refine then_n ?_
        refine wp_cond_true (hF.eval rfl) ?_
        refine wp_seq ?_
        refine wp_region_lit ?_
        refine wl (d_assign rfl) rfl hF (fun a hF => ?_)
        refine wl_nil ?_
        have hF := hF.sub (L' := [(0, (Value.agg (#[(Value.int .i64 k), (Value.int .i64 nm), (Value.slice ad ks.length cap)]))), (1, (Value.int .i64 (d : Int))), (2, (Value.pointer (some ⟨b1, 0, none⟩))), (4, (Value.bool false)), (5, (Value.int .i64 1)), (6, (Value.int .i64 1)), (10, (Value.int .i64 k)), (19, (Value.bool (decide (k = 1)))), (29, (Value.bool (decide (k = 2)))), (48, (Value.bool true))]) ⟨rfl, rfl, rfl, rfl, rfl, rfl, rfl, rfl, rfl, rfl, trivial⟩
        refine then_n ?_
        refine wp_ret ?_
        refine then_ret ?_
        refine body_ret hF (results1 Tryd.results78 (RV.tmp hF rfl)) ?_
        first | exact ⟨by rw [shaped_no1 (by omega)], hM.below⟩ | exact ⟨by rw [shaped_no2 hlo hhi (by omega)], hM.below⟩ | exact ⟨by rw [shaped_no3 hfalse], hM.below⟩ | exact ⟨by rw [shaped_yes (by omega) hlo hhi (by omega) hfin], hM.below⟩
      · have hdec_ : decide (100 ≤ (d : Int)) = false := decide_eq_false hdd
        rw [hdec_] at hF
        refine wlg rfl (d_fieldAddrQ Tryd.underlying26 (m := 0) sz24 rfl rfl rfl) rfl hF (fun a hF => ?_)
        refine wlg rfl (d_load1 Tryd.underlying24 rfl rfl (hM.cell 0 rfl rfl)) rfl hF (fun a hF => ?_)
        refine wlg rfl (d_len_slice Tryd.underlying24 rfl) rfl hF (fun a hF => ?_)
        refine wlg rfl (d_move rfl) rfl hF (fun a hF => ?_)
        refine wlg rfl (d_lss rfl rfl) rfl hF (fun a hF => ?_)
        refine wl (d_pick (b := false) rfl rfl) rfl hF (fun a hF => ?_)
        refine wl (d_move rfl) rfl hF (fun a hF => ?_)
        by_cases hlow : (ks.length : Int) < 1
        · have hdec_ : decide ((ks.length : Int) < 1) = true := decide_eq_true hlow
          rw [hdec_] at hF
          refine wlgs (c := true) rfl rfl rfl hF (fun a hF => ?_)
          refine wlgs (c := true) rfl rfl rfl hF (fun a hF => ?_)
          refine wlgs (c := true) rfl rfl rfl hF (fun a hF => ?_)
          refine wlgs (c := true) rfl rfl rfl hF (fun a hF => ?_)
          refine wlgs (c := true) rfl rfl rfl hF (fun a hF => ?_)
          refine wl (d_pick (b := true) rfl rfl) rfl hF (fun a hF => ?_)
          refine wl_nil ?_
          have hF := hF.sub (L' := [(0, (Value.agg (#[(Value.int .i64 k), (Value.int .i64 nm), (Value.slice ad ks.length cap)]))), (1, (Value.int .i64 (d : Int))), (2, (Value.pointer (some ⟨b1, 0, none⟩))), (4, (Value.bool false)), (5, (Value.int .i64 1)), (6, (Value.int .i64 1)), (10, (Value.int .i64 k)), (19, (Value.bool (decide (k = 1)))), (29, (Value.bool (decide (k = 2)))), (48, (Value.bool true))]) ⟨rfl, rfl, rfl, rfl, rfl, rfl, rfl, rfl, rfl, rfl, trivial⟩
          refine then_n ?_
          refine wp_cond_true (hF.eval rfl) ?_
          refine wp_seq ?_
          refine wp_region_lit ?_
          refine wl (d_assign rfl) rfl hF (fun a hF => ?_)
          refine wl_nil ?_
          have hF := hF.sub (L' := [(0, (Value.agg (#[(Value.int .i64 k), (Value.int .i64 nm), (Value.slice ad ks.length cap)]))), (1, (Value.int .i64 (d : Int))), (2, (Value.pointer (some ⟨b1, 0, none⟩))), (4, (Value.bool false)), (5, (Value.int .i64 1)), (6, (Value.int .i64 1)), (10, (Value.int .i64 k)), (19, (Value.bool (decide (k = 1)))), (29, (Value.bool (decide (k = 2)))), (48, (Value.bool true))]) ⟨rfl, rfl, rfl, rfl, rfl, rfl, rfl, rfl, rfl, rfl, trivial⟩
          refine then_n ?_
          refine wp_ret ?_
          refine then_ret ?_
          refine body_ret hF (results1 Tryd.results78 (RV.tmp hF rfl)) ?_
          first | exact ⟨by rw [shaped_no1 (by omega)], hM.below⟩ | exact ⟨by rw [shaped_no2 hlo hhi (by omega)], hM.below⟩ | exact ⟨by rw [shaped_no3 hfalse], hM.below⟩ | exact ⟨by rw [shaped_yes (by omega) hlo hhi (by omega) hfin], hM.below⟩
        · have hdec_ : decide ((ks.length : Int) < 1) = false := decide_eq_false hlow
          rw [hdec_] at hF
          refine wlg rfl (d_fieldAddrQ Tryd.underlying26 (m := 0) sz24 rfl rfl rfl) rfl hF (fun a hF => ?_)
          refine wlg rfl (d_load1 Tryd.underlying24 rfl rfl (hM.cell 0 rfl rfl)) rfl hF (fun a hF => ?_)
          refine wlg rfl (d_len_slice Tryd.underlying24 rfl) rfl hF (fun a hF => ?_)
          refine wlg rfl (d_move rfl) rfl hF (fun a hF => ?_)
          refine wlg rfl (d_gtr rfl rfl) rfl hF (fun a hF => ?_)
          refine wl (d_pick (b := false) rfl rfl) rfl hF (fun a hF => ?_)
          refine wl_nil ?_
          have hF := hF.sub (L' := [(0, (Value.agg (#[(Value.int .i64 k), (Value.int .i64 nm), (Value.slice ad ks.length cap)]))), (1, (Value.int .i64 (d : Int))), (2, (Value.pointer (some ⟨b1, 0, none⟩))), (4, (Value.bool false)), (5, (Value.int .i64 1)), (6, (Value.int .i64 1)), (10, (Value.int .i64 k)), (19, (Value.bool (decide (k = 1)))), (29, (Value.bool (decide (k = 2)))), (48, (Value.bool (decide (1 < (ks.length : Int)))))]) ⟨rfl, rfl, rfl, rfl, rfl, rfl, rfl, rfl, rfl, rfl, trivial⟩
          refine then_n ?_
          refine wp_if hF rfl (fun h => ?_) (fun h => ?_)
          · have hhigh := of_decide_eq_true h
            clear h
            refine wp_seq ?_
            refine wp_region_lit ?_
            refine wl (d_assign rfl) rfl hF (fun a hF => ?_)
            refine wl_nil ?_
            have hF := hF.sub (L' := [(0, (Value.agg (#[(Value.int .i64 k), (Value.int .i64 nm), (Value.slice ad ks.length cap)]))), (1, (Value.int .i64 (d : Int))), (2, (Value.pointer (some ⟨b1, 0, none⟩))), (4, (Value.bool false)), (5, (Value.int .i64 1)), (6, (Value.int .i64 1)), (10, (Value.int .i64 k)), (19, (Value.bool (decide (k = 1)))), (29, (Value.bool (decide (k = 2)))), (48, (Value.bool (decide (1 < (ks.length : Int)))))]) ⟨rfl, rfl, rfl, rfl, rfl, rfl, rfl, rfl, rfl, rfl, trivial⟩
            refine then_n ?_
            refine wp_ret ?_
            refine then_ret ?_
            refine body_ret hF (results1 Tryd.results78 (RV.tmp hF rfl)) ?_
            first | exact ⟨by rw [shaped_no1 (by omega)], hM.below⟩ | exact ⟨by rw [shaped_no2 hlo hhi (by omega)], hM.below⟩ | exact ⟨by rw [shaped_no3 hfalse], hM.below⟩ | exact ⟨by rw [shaped_yes (by omega) hlo hhi (by omega) hfin], hM.below⟩
          · have hhigh := of_decide_eq_false h
            clear h
            refine wp_skip ?_
            refine then_n ?_
            refine wp_seq ?_
            refine wp_seq ?_
            refine wp_region_lit ?_
            refine wl (d_fieldAddrQ Tryd.underlying26 (m := 0) sz24 rfl rfl rfl) rfl hF (fun a hF => ?_)
            refine wl (d_load1 Tryd.underlying24 rfl rfl (hM.cell 0 rfl rfl)) rfl hF (fun a hF => ?_)
            refine wl (d_len_slice Tryd.underlying24 rfl) rfl hF (fun a hF => ?_)
            refine wl (d_move rfl) rfl hF (fun a hF => ?_)
            refine wl_nil ?_
            have hF := hF.sub (L' := [(0, (Value.agg (#[(Value.int .i64 k), (Value.int .i64 nm), (Value.slice ad ks.length cap)]))), (1, (Value.int .i64 (d : Int))), (2, (Value.pointer (some ⟨b1, 0, none⟩))), (4, (Value.bool false)), (5, (Value.int .i64 1)), (6, (Value.int .i64 1)), (10, (Value.int .i64 k)), (19, (Value.bool (decide (k = 1)))), (29, (Value.bool (decide (k = 2)))), (48, (Value.bool (decide (1 < (ks.length : Int))))), (50, (Value.slice ad ks.length cap)), (51, (Value.int .i64 (ks.length : Int))), (52, (Value.int .i64 0))]) ⟨rfl, rfl, rfl, rfl, rfl, rfl, rfl, rfl, rfl, rfl, rfl, rfl, rfl, trivial⟩
            refine then_n ?_
            refine wp_block ?_
            refine wp_loop_k (fun fu_ a w => ∃ (i : Nat), fu_ = ks.length - i ∧ (i ≤ ks.length) ∧ (shapedL (ks.drop i) (d + 1) = shapedL ks (d + 1)) ∧ Frm a 62 [(1, (Value.int .i64 (d : Int))), (2, (Value.pointer (some ⟨b1, 0, none⟩))), (50, (Value.slice ad ks.length cap)), (51, (Value.int .i64 (ks.length : Int))), (52, (Value.int .i64 (i : Int)))] ∧ Mem w0 w [(b1, #[(Value.int .i64 k), (Value.int .i64 nm), (Value.slice ad ks.length cap)], 26)]) _ ⟨0, rfl, (by omega), rfl, hF.sub ⟨rfl, rfl, rfl, rfl, rfl, trivial⟩, ?_⟩ ?_
            · exact hM
            rintro _ a w ⟨i, rfl, hl2_0, hl2_1, hF, hM⟩
            have hle := hl2_0
            have hsh := hl2_1
            refine wp_seq ?_
            refine wp_region_lit ?_
            refine wl (d_lss rfl rfl) rfl hF (fun a hF => ?_)
            refine wl_nil ?_
            have hF := hF.sub (L' := [(1, (Value.int .i64 (d : Int))), (2, (Value.pointer (some ⟨b1, 0, none⟩))), (50, (Value.slice ad ks.length cap)), (51, (Value.int .i64 (ks.length : Int))), (52, (Value.int .i64 (i : Int))), (53, (Value.bool (decide ((i : Int) < (ks.length : Int)))))]) ⟨rfl, rfl, rfl, rfl, rfl, rfl, trivial⟩
            refine then_n ?_
            refine wp_seq ?_
            refine wp_if hF rfl (fun h => ?_) (fun h => ?_)
            · have hlt := of_decide_eq_true h
              clear h
              obtain ⟨b0, o0, hae, hb0, hat0⟩ := hsl (by omega)
              obtain ⟨t1, hi⟩ : ∃ t, ks[i]? = some t := ⟨_, List.getElem?_eq_getElem (by omega)⟩
              have hmem : t1 ∈ ks := List.mem_of_getElem? hi
              obtain ⟨a1, ha1, hat1⟩ := hks.at hat0 i t1 hi
              obtain ⟨k1, nm1, ad1, l1, cap1, rfl⟩ := ha1.form
              refine wp_skip ?_
              refine then_n ?_
              refine wp_seq ?_
              refine wp_block ?_
              refine wp_seq ?_
              refine wp_region_lit ?_
              refine wl (d_ixSm (b := b0) (o := o0) Tryd.underlying24 sz26 (by rw [← hae]; rfl) rfl rfl (by omega)) rfl hF (fun a hF => ?_)
              refine wl (d_loadC Tryd.underlying26 rfl sz26 rfl (hat1.mv (Gr.ch hM.below) (by simp)) rfl) rfl hF (fun a hF => ?_)
              refine wlR (ok_alloc z26) rfl hF ?_
              rintro _ w a ⟨b3, rfl, hnb_⟩ hF
              have hM : Mem w0 w [(b1, #[(Value.int .i64 k), (Value.int .i64 nm), (Value.slice ad ks.length cap)], 26), (b3, #[(Value.int .i64 0), (Value.int .i64 0), (Value.slice none 0 0)], 26)] := hM.alloc hnb_
              refine wl0R (ok_storeA (c' := #[(Value.int .i64 k1), (Value.int .i64 nm1), (Value.slice ad1 l1 cap1)]) sz26 rfl rfl rfl (fun v hv => by simp at hv; rcases hv with rfl | rfl | rfl <;> rfl) (hM.at 1 rfl) rfl) hF ?_
              rintro w a hu hF
              have hM : Mem w0 w [(b1, #[(Value.int .i64 k), (Value.int .i64 nm), (Value.slice ad ks.length cap)], 26), (b3, #[(Value.int .i64 k1), (Value.int .i64 nm1), (Value.slice ad1 l1 cap1)], 26)] := hM.upd 1 rfl hu
              refine wl_nil ?_
              have hF := hF.sub (L' := [(1, (Value.int .i64 (d : Int))), (2, (Value.pointer (some ⟨b1, 0, none⟩))), (8, (Value.pointer (some ⟨b3, 0, none⟩))), (50, (Value.slice ad ks.length cap)), (51, (Value.int .i64 (ks.length : Int))), (52, (Value.int .i64 (i : Int))), (53, (Value.bool (decide ((i : Int) < (ks.length : Int)))))]) ⟨rfl, rfl, rfl, rfl, rfl, rfl, rfl, trivial⟩
              refine then_n ?_
              refine wp_seq ?_
              refine wp_region_lit ?_
              refine wl (d_loadA Tryd.underlying26 rfl sz26 rfl (hM.at 1 rfl) rfl) rfl hF (fun a hF => ?_)
              refine wl (d_move rfl) rfl hF (fun a hF => ?_)
              refine wl (d_add rfl rfl (wrap_i64 (by omega) (by omega))) rfl hF (fun a hF => ?_)
              refine wlR (ok_call c78 rfl (ih t1 hmem X _ (d + 1) _ (IsT.mv (Gr.ch hM.below) (by simp) (fun x hx => .inl hx) t1 _ ha1) (by omega))) rfl hF ?_
              rintro _ w a ⟨rfl, hg⟩ hF
              have hM := hM.call hg
              refine wl (d_not rfl) rfl hF (fun a hF => ?_)
              refine wl_nil ?_
              have hF := hF.sub (L' := [(1, (Value.int .i64 (d : Int))), (2, (Value.pointer (some ⟨b1, 0, none⟩))), (8, (Value.pointer (some ⟨b3, 0, none⟩))), (50, (Value.slice ad ks.length cap)), (51, (Value.int .i64 (ks.length : Int))), (52, (Value.int .i64 (i : Int))), (53, (Value.bool (decide ((i : Int) < (ks.length : Int))))), (60, (Value.bool (!(shaped t1 (d + 1)))))]) ⟨rfl, rfl, rfl, rfl, rfl, rfl, rfl, rfl, trivial⟩
              refine then_n ?_
              refine wp_if hF rfl (fun h => ?_) (fun h => ?_)
              · have hs := h
                clear h
                have hfalse : shapedL ks (d + 1) = false := by rw [← hsh, shapedL_drop hi]; simp at hs; simp [hs]
                refine wp_seq ?_
                refine wp_region_lit ?_
                refine wl (d_assign rfl) rfl hF (fun a hF => ?_)
                refine wl_nil ?_
                have hF := hF.sub (L' := [(1, (Value.int .i64 (d : Int))), (2, (Value.pointer (some ⟨b1, 0, none⟩))), (4, (Value.bool false)), (8, (Value.pointer (some ⟨b3, 0, none⟩))), (50, (Value.slice ad ks.length cap)), (51, (Value.int .i64 (ks.length : Int))), (52, (Value.int .i64 (i : Int))), (53, (Value.bool (decide ((i : Int) < (ks.length : Int))))), (60, (Value.bool (!(shaped t1 (d + 1)))))]) ⟨rfl, rfl, rfl, rfl, rfl, rfl, rfl, rfl, rfl, trivial⟩
                refine then_n ?_
                refine wp_ret ?_
                refine block_ret ?_
                refine then_ret ?_
                refine then_ret ?_
                refine block_ret ?_
                refine then_ret ?_
                refine body_ret hF (results1 Tryd.results78 (RV.tmp hF rfl)) ?_
                first | exact ⟨by rw [shaped_no1 (by omega)], hM.below⟩ | exact ⟨by rw [shaped_no2 hlo hhi (by omega)], hM.below⟩ | exact ⟨by rw [shaped_no3 hfalse], hM.below⟩ | exact ⟨by rw [shaped_yes (by omega) hlo hhi (by omega) hfin], hM.below⟩
              · have hs := h
                clear h
                have hs : shaped t1 (d + 1) = true := by simpa using hs
                refine wp_skip ?_
                refine block_n ?_
                refine then_n ?_
                refine wp_region_lit ?_
                refine wl (d_add rfl rfl (wrap_i64 (by omega) (by omega))) rfl hF (fun a hF => ?_)
                refine wl (d_move rfl) rfl hF (fun a hF => ?_)
                refine wl_nil ?_
                have hF := hF.sub (L' := [(1, (Value.int .i64 (d : Int))), (2, (Value.pointer (some ⟨b1, 0, none⟩))), (8, (Value.pointer (some ⟨b3, 0, none⟩))), (50, (Value.slice ad ks.length cap)), (51, (Value.int .i64 (ks.length : Int))), (52, (Value.int .i64 ((i : Int) + 1))), (53, (Value.bool (decide ((i : Int) < (ks.length : Int))))), (60, (Value.bool (!(shaped t1 (d + 1)))))]) ⟨rfl, rfl, rfl, rfl, rfl, rfl, rfl, rfl, trivial⟩
                refine then_n ?_
                refine ⟨_, ?_, i + 1, rfl, (by omega), (by rw [← hsh, shapedL_drop hi, hs, Bool.true_and]), hF.sub ⟨rfl, rfl, rfl, rfl, rfl, trivial⟩, ?_⟩
                · omega
                exact hM.sub (by simp)
            · have hlt := of_decide_eq_false h
              clear h
              have hi : i = ks.length := by omega
              have hfin : shapedL ks (d + 1) = true := by rw [← hsh, hi, List.drop_length]; rfl
              refine wp_exit ?_
              refine then_exit ?_
              refine then_exit ?_
              refine block_exit ?_
              refine then_n ?_
              refine wp_seq ?_
              refine wp_region_lit ?_
              refine wl (d_assign rfl) rfl hF (fun a hF => ?_)
              refine wl_nil ?_
              have hF := hF.sub (L' := [(1, (Value.int .i64 (d : Int))), (2, (Value.pointer (some ⟨b1, 0, none⟩))), (4, (Value.bool true)), (50, (Value.slice ad ks.length cap)), (51, (Value.int .i64 (ks.length : Int))), (52, (Value.int .i64 (i : Int))), (53, (Value.bool (decide ((i : Int) < (ks.length : Int)))))]) ⟨rfl, rfl, rfl, rfl, rfl, rfl, rfl, trivial⟩
              refine then_n ?_
              refine wp_ret ?_
              refine body_ret hF (results1 Tryd.results78 (RV.tmp hF rfl)) ?_
              first | exact ⟨by rw [shaped_no1 (by omega)], hM.below⟩ | exact ⟨by rw [shaped_no2 hlo hhi (by omega)], hM.below⟩ | exact ⟨by rw [shaped_no3 hfalse], hM.below⟩ | exact ⟨by rw [shaped_yes (by omega) hlo hhi (by omega) hfin], hM.below⟩
    · have hk2 := of_decide_eq_false h
      clear h
      refine wp_seq ?_
      refine wp_region_lit ?_
      refine wl (d_eql rfl rfl) rfl hF (fun a hF => ?_)
      refine wl (d_assign rfl) rfl hF (fun a hF => ?_)
      refine wl_nil ?_
      have hF := hF.sub (L' := [(0, (Value.agg (#[(Value.int .i64 k), (Value.int .i64 nm), (Value.slice ad ks.length cap)]))), (1, (Value.int .i64 (d : Int))), (2, (Value.pointer (some ⟨b1, 0, none⟩))), (4, (Value.bool false)), (5, (Value.int .i64 2)), (6, (Value.int .i64 2)), (10, (Value.int .i64 k)), (19, (Value.bool (decide (k = 1)))), (29, (Value.bool (decide (k = 2)))), (31, (Value.bool (decide (k = 6))))]) ⟨rfl, rfl, rfl, rfl, rfl, rfl, rfl, rfl, rfl, rfl, trivial⟩
      refine then_n ?_
      refine wp_if hF rfl (fun h => ?_) (fun h => ?_)
      · have hk6 := of_decide_eq_true h
        clear h
        have hlo : low k = 1 := (by simp [low, high, hk6])
        have hhi : high k = 8 := (by simp [low, high, hk6])
        refine wp_region_lit ?_
        refine wl (d_assign rfl) rfl hF (fun a hF => ?_)
        refine wl (d_assign rfl) rfl hF (fun a hF => ?_)
        refine wl_nil ?_
        have hF := hF.sub (L' := [(0, (Value.agg (#[(Value.int .i64 k), (Value.int .i64 nm), (Value.slice ad ks.length cap)]))), (1, (Value.int .i64 (d : Int))), (2, (Value.pointer (some ⟨b1, 0, none⟩))), (4, (Value.bool false)), (5, (Value.int .i64 1)), (6, (Value.int .i64 8)), (10, (Value.int .i64 k)), (19, (Value.bool (decide (k = 1)))), (29, (Value.bool (decide (k = 2)))), (31, (Value.bool (decide (k = 6))))]) ⟨rfl, rfl, rfl, rfl, rfl, rfl, rfl, rfl, rfl, rfl, trivial⟩
        refine block_n ?_
        refine then_n ?_
        refine wp_seq ?_
        refine wp_seq ?_
        refine wp_region_lit ?_
        refine wl (d_move rfl) rfl hF (fun a hF => ?_)
        refine wl (d_geq rfl rfl) rfl hF (fun a hF => ?_)
        refine wl (d_move rfl) rfl hF (fun a hF => ?_)
        by_cases hdd : 100 ≤ (d : Int)
        · have hdec_ : decide (100 ≤ (d : Int)) = true := decide_eq_true hdd
          rw [hdec_] at hF
          refine wlgs (c := true) rfl rfl rfl hF (fun a hF => ?_)
          refine wlgs (c := true) rfl rfl rfl hF (fun a hF => ?_)
          refine wlgs (c := true) rfl rfl rfl hF (fun a hF => ?_)
          refine wlgs (c := true) rfl rfl rfl hF (fun a hF => ?_)
          refine wlgs (c := true) rfl rfl rfl hF (fun a hF => ?_)
          refine wl (d_pick (b := true) rfl rfl) rfl hF (fun a hF => ?_)
          refine wl (d_move rfl) rfl hF (fun a hF => ?_)
          refine wlgs (c := true) rfl rfl rfl hF (fun a hF => ?_)
          refine wlgs (c := true) rfl rfl rfl hF (fun a hF => ?_)
          refine wlgs (c := true) rfl rfl rfl hF (fun a hF => ?_)
          refine wlgs (c := true) rfl rfl rfl hF (fun a hF => ?_)
          refine wlgs (c := true) rfl rfl rfl hF (fun a hF => ?_)
          refine wl (d_pick (b := true) rfl rfl) rfl hF (fun a hF => ?_)
          refine wl_nil ?_
          have hF := hF.sub (L' := [(0, (Value.agg (#[(Value.int .i64 k), (Value.int .i64 nm), (Value.slice ad ks.length cap)]))), (1, (Value.int .i64 (d : Int))), (2, (Value.pointer (some ⟨b1, 0, none⟩))), (4, (Value.bool false)), (5, (Value.int .i64 1)), (6, (Value.int .i64 8)), (10, (Value.int .i64 k)), (19, (Value.bool (decide (k = 1)))), (29, (Value.bool (decide (k = 2)))), (31, (Value.bool (decide (k = 6)))), (48, (Value.bool true))]) ⟨rfl, rfl, rfl, rfl, rfl, rfl, rfl, rfl, rfl, rfl, rfl, trivial⟩
          refine then_n ?_
          refine wp_cond_true (hF.eval rfl) ?_
          refine wp_seq ?_
          refine wp_region_lit ?_
          refine wl (d_assign rfl) rfl hF (fun a hF => ?_)
          refine wl_nil ?_
          have hF := hF.sub (L' := [(0, (Value.agg (#[(Value.int .i64 k), (Value.int .i64 nm), (Value.slice ad ks.length cap)]))), (1, (Value.int .i64 (d : Int))), (2, (Value.pointer (some ⟨b1, 0, none⟩))), (4, (Value.bool false)), (5, (Value.int .i64 1)), (6, (Value.int .i64 8)), (10, (Value.int .i64 k)), (19, (Value.bool (decide (k = 1)))), (29, (Value.bool (decide (k = 2)))), (31, (Value.bool (decide (k = 6)))), (48, (Value.bool true))]) ⟨rfl, rfl, rfl, rfl, rfl, rfl, rfl, rfl, rfl, rfl, rfl, trivial⟩
          refine then_n ?_
          refine wp_ret ?_
          refine then_ret ?_
          refine body_ret hF (results1 Tryd.results78 (RV.tmp hF rfl)) ?_
          first | exact ⟨by rw [shaped_no1 (by omega)], hM.below⟩ | exact ⟨by rw [shaped_no2 hlo hhi (by omega)], hM.below⟩ | exact ⟨by rw [shaped_no3 hfalse], hM.below⟩ | exact ⟨by rw [shaped_yes (by omega) hlo hhi (by omega) hfin], hM.below⟩
        · have hdec_ : decide (100 ≤ (d : Int)) = false := decide_eq_false hdd
          rw [hdec_] at hF
          refine wlg rfl (d_fieldAddrQ Tryd.underlying26 (m := 0) sz24 rfl rfl rfl) rfl hF (fun a hF => ?_)
          refine wlg rfl (d_load1 Tryd.underlying24 rfl rfl (hM.cell 0 rfl rfl)) rfl hF (fun a hF => ?_)
          refine wlg rfl (d_len_slice Tryd.underlying24 rfl) rfl hF (fun a hF => ?_)
          refine wlg rfl (d_move rfl) rfl hF (fun a hF => ?_)
          refine wlg rfl (d_lss rfl rfl) rfl hF (fun a hF => ?_)
          refine wl (d_pick (b := false) rfl rfl) rfl hF (fun a hF => ?_)
          refine wl (d_move rfl) rfl hF (fun a hF => ?_)
          by_cases hlow : (ks.length : Int) < 1
          · have hdec_ : decide ((ks.length : Int) < 1) = true := decide_eq_true hlow
            rw [hdec_] at hF
            refine wlgs (c := true) rfl rfl rfl hF (fun a hF => ?_)
            refine wlgs (c := true) rfl rfl rfl hF (fun a hF => ?_)
            refine wlgs (c := true) rfl rfl rfl hF (fun a hF => ?_)
            refine wlgs (c := true) rfl rfl rfl hF (fun a hF => ?_)
            refine wlgs (c := true) rfl rfl rfl hF (fun a hF => ?_)
            refine wl (d_pick (b := true) rfl rfl) rfl hF (fun a hF => ?_)
            refine wl_nil ?_
            have hF := hF.sub (L' := [(0, (Value.agg (#[(Value.int .i64 k), (Value.int .i64 nm), (Value.slice ad ks.length cap)]))), (1, (Value.int .i64 (d : Int))), (2, (Value.pointer (some ⟨b1, 0, none⟩))), (4, (Value.bool false)), (5, (Value.int .i64 1)), (6, (Value.int .i64 8)), (10, (Value.int .i64 k)), (19, (Value.bool (decide (k = 1)))), (29, (Value.bool (decide (k = 2)))), (31, (Value.bool (decide (k = 6)))), (48, (Value.bool true))]) ⟨rfl, rfl, rfl, rfl, rfl, rfl, rfl, rfl, rfl, rfl, rfl, trivial⟩
            refine then_n ?_
            refine wp_cond_true (hF.eval rfl) ?_
            refine wp_seq ?_
            refine wp_region_lit ?_
            refine wl (d_assign rfl) rfl hF (fun a hF => ?_)
            refine wl_nil ?_
            have hF := hF.sub (L' := [(0, (Value.agg (#[(Value.int .i64 k), (Value.int .i64 nm), (Value.slice ad ks.length cap)]))), (1, (Value.int .i64 (d : Int))), (2, (Value.pointer (some ⟨b1, 0, none⟩))), (4, (Value.bool false)), (5, (Value.int .i64 1)), (6, (Value.int .i64 8)), (10, (Value.int .i64 k)), (19, (Value.bool (decide (k = 1)))), (29, (Value.bool (decide (k = 2)))), (31, (Value.bool (decide (k = 6)))), (48, (Value.bool true))]) ⟨rfl, rfl, rfl, rfl, rfl, rfl, rfl, rfl, rfl, rfl, rfl, trivial⟩
            refine then_n ?_
            refine wp_ret ?_
            refine then_ret ?_
            refine body_ret hF (results1 Tryd.results78 (RV.tmp hF rfl)) ?_
            first | exact ⟨by rw [shaped_no1 (by omega)], hM.below⟩ | exact ⟨by rw [shaped_no2 hlo hhi (by omega)], hM.below⟩ | exact ⟨by rw [shaped_no3 hfalse], hM.below⟩ | exact ⟨by rw [shaped_yes (by omega) hlo hhi (by omega) hfin], hM.below⟩
          · have hdec_ : decide ((ks.length : Int) < 1) = false := decide_eq_false hlow
            rw [hdec_] at hF
            refine wlg rfl (d_fieldAddrQ Tryd.underlying26 (m := 0) sz24 rfl rfl rfl) rfl hF (fun a hF => ?_)
            refine wlg rfl (d_load1 Tryd.underlying24 rfl rfl (hM.cell 0 rfl rfl)) rfl hF (fun a hF => ?_)
            refine wlg rfl (d_len_slice Tryd.underlying24 rfl) rfl hF (fun a hF => ?_)
            refine wlg rfl (d_move rfl) rfl hF (fun a hF => ?_)
            refine wlg rfl (d_gtr rfl rfl) rfl hF (fun a hF => ?_)
            refine wl (d_pick (b := false) rfl rfl) rfl hF (fun a hF => ?_)
            refine wl_nil ?_
            have hF := hF.sub (L' := [(0, (Value.agg (#[(Value.int .i64 k), (Value.int .i64 nm), (Value.slice ad ks.length cap)]))), (1, (Value.int .i64 (d : Int))), (2, (Value.pointer (some ⟨b1, 0, none⟩))), (4, (Value.bool false)), (5, (Value.int .i64 1)), (6, (Value.int .i64 8)), (10, (Value.int .i64 k)), (19, (Value.bool (decide (k = 1)))), (29, (Value.bool (decide (k = 2)))), (31, (Value.bool (decide (k = 6)))), (48, (Value.bool (decide (8 < (ks.length : Int)))))]) ⟨rfl, rfl, rfl, rfl, rfl, rfl, rfl, rfl, rfl, rfl, rfl, trivial⟩
            refine then_n ?_
            refine wp_if hF rfl (fun h => ?_) (fun h => ?_)
            · have hhigh := of_decide_eq_true h
              clear h
              refine wp_seq ?_
              refine wp_region_lit ?_
              refine wl (d_assign rfl) rfl hF (fun a hF => ?_)
              refine wl_nil ?_
              have hF := hF.sub (L' := [(0, (Value.agg (#[(Value.int .i64 k), (Value.int .i64 nm), (Value.slice ad ks.length cap)]))), (1, (Value.int .i64 (d : Int))), (2, (Value.pointer (some ⟨b1, 0, none⟩))), (4, (Value.bool false)), (5, (Value.int .i64 1)), (6, (Value.int .i64 8)), (10, (Value.int .i64 k)), (19, (Value.bool (decide (k = 1)))), (29, (Value.bool (decide (k = 2)))), (31, (Value.bool (decide (k = 6)))), (48, (Value.bool (decide (8 < (ks.length : Int)))))]) ⟨rfl, rfl, rfl, rfl, rfl, rfl, rfl, rfl, rfl, rfl, rfl, trivial⟩
              refine then_n ?_
              refine wp_ret ?_
              refine then_ret ?_
              refine body_ret hF (results1 Tryd.results78 (RV.tmp hF rfl)) ?_
              first | exact ⟨by rw [shaped_no1 (by omega)], hM.below⟩ | exact ⟨by rw [shaped_no2 hlo hhi (by omega)], hM.below⟩ | exact ⟨by rw [shaped_no3 hfalse], hM.below⟩ | exact ⟨by rw [shaped_yes (by omega) hlo hhi (by omega) hfin], hM.below⟩
            · have hhigh := of_decide_eq_false h
              clear h
              refine wp_skip ?_
              refine then_n ?_
              refine wp_seq ?_
              refine wp_seq ?_
              refine wp_region_lit ?_
              refine wl (d_fieldAddrQ Tryd.underlying26 (m := 0) sz24 rfl rfl rfl) rfl hF (fun a hF => ?_)
              refine wl (d_load1 Tryd.underlying24 rfl rfl (hM.cell 0 rfl rfl)) rfl hF (fun a hF => ?_)
              refine wl (d_len_slice Tryd.underlying24 rfl) rfl hF (fun a hF => ?_)
              refine wl (d_move rfl) rfl hF (fun a hF => ?_)
              refine wl_nil ?_
              have hF := hF.sub (L' := [(0, (Value.agg (#[(Value.int .i64 k), (Value.int .i64 nm), (Value.slice ad ks.length cap)]))), (1, (Value.int .i64 (d : Int))), (2, (Value.pointer (some ⟨b1, 0, none⟩))), (4, (Value.bool false)), (5, (Value.int .i64 1)), (6, (Value.int .i64 8)), (10, (Value.int .i64 k)), (19, (Value.bool (decide (k = 1)))), (29, (Value.bool (decide (k = 2)))), (31, (Value.bool (decide (k = 6)))), (48, (Value.bool (decide (8 < (ks.length : Int))))), (50, (Value.slice ad ks.length cap)), (51, (Value.int .i64 (ks.length : Int))), (52, (Value.int .i64 0))]) ⟨rfl, rfl, rfl, rfl, rfl, rfl, rfl, rfl, rfl, rfl, rfl, rfl, rfl, rfl, trivial⟩
              refine then_n ?_
              refine wp_block ?_
              refine wp_loop_k (fun fu_ a w => ∃ (i : Nat), fu_ = ks.length - i ∧ (i ≤ ks.length) ∧ (shapedL (ks.drop i) (d + 1) = shapedL ks (d + 1)) ∧ Frm a 62 [(1, (Value.int .i64 (d : Int))), (2, (Value.pointer (some ⟨b1, 0, none⟩))), (50, (Value.slice ad ks.length cap)), (51, (Value.int .i64 (ks.length : Int))), (52, (Value.int .i64 (i : Int)))] ∧ Mem w0 w [(b1, #[(Value.int .i64 k), (Value.int .i64 nm), (Value.slice ad ks.length cap)], 26)]) _ ⟨0, rfl, (by omega), rfl, hF.sub ⟨rfl, rfl, rfl, rfl, rfl, trivial⟩, ?_⟩ ?_
              · exact hM
              rintro _ a w ⟨i, rfl, hl3_0, hl3_1, hF, hM⟩
              have hle := hl3_0
              have hsh := hl3_1
              refine wp_seq ?_
              refine wp_region_lit ?_
              refine wl (d_lss rfl rfl) rfl hF (fun a hF => ?_)
              refine wl_nil ?_
              have hF := hF.sub (L' := [(1, (Value.int .i64 (d : Int))), (2, (Value.pointer (some ⟨b1, 0, none⟩))), (50, (Value.slice ad ks.length cap)), (51, (Value.int .i64 (ks.length : Int))), (52, (Value.int .i64 (i : Int))), (53, (Value.bool (decide ((i : Int) < (ks.length : Int)))))]) ⟨rfl, rfl, rfl, rfl, rfl, rfl, trivial⟩
              refine then_n ?_
              refine wp_seq ?_
              refine wp_if hF rfl (fun h => ?_) (fun h => ?_)
              · have hlt := of_decide_eq_true h
                clear h
                obtain ⟨b0, o0, hae, hb0, hat0⟩ := hsl (by omega)
                obtain ⟨t1, hi⟩ : ∃ t, ks[i]? = some t := ⟨_, List.getElem?_eq_getElem (by omega)⟩
                have hmem : t1 ∈ ks := List.mem_of_getElem? hi
                obtain ⟨a1, ha1, hat1⟩ := hks.at hat0 i t1 hi
                obtain ⟨k1, nm1, ad1, l1, cap1, rfl⟩ := ha1.form
                refine wp_skip ?_
                refine then_n ?_
                refine wp_seq ?_
                refine wp_block ?_
                refine wp_seq ?_
                refine wp_region_lit ?_
                refine wl (d_ixSm (b := b0) (o := o0) Tryd.underlying24 sz26 (by rw [← hae]; rfl) rfl rfl (by omega)) rfl hF (fun a hF => ?_)
                refine wl (d_loadC Tryd.underlying26 rfl sz26 rfl (hat1.mv (Gr.ch hM.below) (by simp)) rfl) rfl hF (fun a hF => ?_)
                refine wlR (ok_alloc z26) rfl hF ?_
                rintro _ w a ⟨b4, rfl, hnb_⟩ hF
                have hM : Mem w0 w [(b1, #[(Value.int .i64 k), (Value.int .i64 nm), (Value.slice ad ks.length cap)], 26), (b4, #[(Value.int .i64 0), (Value.int .i64 0), (Value.slice none 0 0)], 26)] := hM.alloc hnb_
                refine wl0R (ok_storeA (c' := #[(Value.int .i64 k1), (Value.int .i64 nm1), (Value.slice ad1 l1 cap1)]) sz26 rfl rfl rfl (fun v hv => by simp at hv; rcases hv with rfl | rfl | rfl <;> rfl) (hM.at 1 rfl) rfl) hF ?_
                rintro w a hu hF
                have hM : Mem w0 w [(b1, #[(Value.int .i64 k), (Value.int .i64 nm), (Value.slice ad ks.length cap)], 26), (b4, #[(Value.int .i64 k1), (Value.int .i64 nm1), (Value.slice ad1 l1 cap1)], 26)] := hM.upd 1 rfl hu
                refine wl_nil ?_
                have hF := hF.sub (L' := [(1, (Value.int .i64 (d : Int))), (2, (Value.pointer (some ⟨b1, 0, none⟩))), (8, (Value.pointer (some ⟨b4, 0, none⟩))), (50, (Value.slice ad ks.length cap)), (51, (Value.int .i64 (ks.length : Int))), (52, (Value.int .i64 (i : Int))), (53, (Value.bool (decide ((i : Int) < (ks.length : Int)))))]) ⟨rfl, rfl, rfl, rfl, rfl, rfl, rfl, trivial⟩
                refine then_n ?_
                refine wp_seq ?_
                refine wp_region_lit ?_
                refine wl (d_loadA Tryd.underlying26 rfl sz26 rfl (hM.at 1 rfl) rfl) rfl hF (fun a hF => ?_)
                refine wl (d_move rfl) rfl hF (fun a hF => ?_)
                refine wl (d_add rfl rfl (wrap_i64 (by omega) (by omega))) rfl hF (fun a hF => ?_)
                refine wlR (ok_call c78 rfl (ih t1 hmem X _ (d + 1) _ (IsT.mv (Gr.ch hM.below) (by simp) (fun x hx => .inl hx) t1 _ ha1) (by omega))) rfl hF ?_
                rintro _ w a ⟨rfl, hg⟩ hF
                have hM := hM.call hg
                refine wl (d_not rfl) rfl hF (fun a hF => ?_)
                refine wl_nil ?_
                have hF := hF.sub (L' := [(1, (Value.int .i64 (d : Int))), (2, (Value.pointer (some ⟨b1, 0, none⟩))), (8, (Value.pointer (some ⟨b4, 0, none⟩))), (50, (Value.slice ad ks.length cap)), (51, (Value.int .i64 (ks.length : Int))), (52, (Value.int .i64 (i : Int))), (53, (Value.bool (decide ((i : Int) < (ks.length : Int))))), (60, (Value.bool (!(shaped t1 (d + 1)))))]) ⟨rfl, rfl, rfl, rfl, rfl, rfl, rfl, rfl, trivial⟩
                refine then_n ?_
                refine wp_if hF rfl (fun h => ?_) (fun h => ?_)
                · have hs := h
                  clear h
                  have hfalse : shapedL ks (d + 1) = false := by rw [← hsh, shapedL_drop hi]; simp at hs; simp [hs]
                  refine wp_seq ?_
                  refine wp_region_lit ?_
                  refine wl (d_assign rfl) rfl hF (fun a hF => ?_)
                  refine wl_nil ?_
                  have hF := hF.sub (L' := [(1, (Value.int .i64 (d : Int))), (2, (Value.pointer (some ⟨b1, 0, none⟩))), (4, (Value.bool false)), (8, (Value.pointer (some ⟨b4, 0, none⟩))), (50, (Value.slice ad ks.length cap)), (51, (Value.int .i64 (ks.length : Int))), (52, (Value.int .i64 (i : Int))), (53, (Value.bool (decide ((i : Int) < (ks.length : Int))))), (60, (Value.bool (!(shaped t1 (d + 1)))))]) ⟨rfl, rfl, rfl, rfl, rfl, rfl, rfl, rfl, rfl, trivial⟩
                  refine then_n ?_
                  refine wp_ret ?_
                  refine block_ret ?_
                  refine then_ret ?_
                  refine then_ret ?_
                  refine block_ret ?_
                  refine then_ret ?_
                  refine body_ret hF (results1 Tryd.results78 (RV.tmp hF rfl)) ?_
                  first | exact ⟨by rw [shaped_no1 (by omega)], hM.below⟩ | exact ⟨by rw [shaped_no2 hlo hhi (by omega)], hM.below⟩ | exact ⟨by rw [shaped_no3 hfalse], hM.below⟩ | exact ⟨by rw [shaped_yes (by omega) hlo hhi (by omega) hfin], hM.below⟩
                · have hs := h
                  clear h
                  have hs : shaped t1 (d + 1) = true := by simpa using hs
                  refine wp_skip ?_
                  refine block_n ?_
                  refine then_n ?_
                  refine wp_region_lit ?_
                  refine wl (d_add rfl rfl (wrap_i64 (by omega) (by omega))) rfl hF (fun a hF => ?_)
                  refine wl (d_move rfl) rfl hF (fun a hF => ?_)
                  refine wl_nil ?_
                  have hF := hF.sub (L' := [(1, (Value.int .i64 (d : Int))), (2, (Value.pointer (some ⟨b1, 0, none⟩))), (8, (Value.pointer (some ⟨b4, 0, none⟩))), (50, (Value.slice ad ks.length cap)), (51, (Value.int .i64 (ks.length : Int))), (52, (Value.int .i64 ((i : Int) + 1))), (53, (Value.bool (decide ((i : Int) < (ks.length : Int))))), (60, (Value.bool (!(shaped t1 (d + 1)))))]) ⟨rfl, rfl, rfl, rfl, rfl, rfl, rfl, rfl, trivial⟩
                  refine then_n ?_
                  refine ⟨_, ?_, i + 1, rfl, (by omega), (by rw [← hsh, shapedL_drop hi, hs, Bool.true_and]), hF.sub ⟨rfl, rfl, rfl, rfl, rfl, trivial⟩, ?_⟩
                  · omega
                  exact hM.sub (by simp)
              · have hlt := of_decide_eq_false h
                clear h
                have hi : i = ks.length := by omega
                have hfin : shapedL ks (d + 1) = true := by rw [← hsh, hi, List.drop_length]; rfl
                refine wp_exit ?_
                refine then_exit ?_
                refine then_exit ?_
                refine block_exit ?_
                refine then_n ?_
                refine wp_seq ?_
                refine wp_region_lit ?_
                refine wl (d_assign rfl) rfl hF (fun a hF => ?_)
                refine wl_nil ?_
                have hF := hF.sub (L' := [(1, (Value.int .i64 (d : Int))), (2, (Value.pointer (some ⟨b1, 0, none⟩))), (4, (Value.bool true)), (50, (Value.slice ad ks.length cap)), (51, (Value.int .i64 (ks.length : Int))), (52, (Value.int .i64 (i : Int))), (53, (Value.bool (decide ((i : Int) < (ks.length : Int)))))]) ⟨rfl, rfl, rfl, rfl, rfl, rfl, rfl, trivial⟩
                refine then_n ?_
                refine wp_ret ?_
                refine body_ret hF (results1 Tryd.results78 (RV.tmp hF rfl)) ?_
                first | exact ⟨by rw [shaped_no1 (by omega)], hM.below⟩ | exact ⟨by rw [shaped_no2 hlo hhi (by omega)], hM.below⟩ | exact ⟨by rw [shaped_no3 hfalse], hM.below⟩ | exact ⟨by rw [shaped_yes (by omega) hlo hhi (by omega) hfin], hM.below⟩
      · have hk6 := of_decide_eq_false h
        clear h
        refine wp_seq ?_
        refine wp_region_lit ?_
        refine wl (d_fieldAddrQ Tryd.underlying26 (m := 0) sz3 rfl rfl rfl) rfl hF (fun a hF => ?_)
        refine wl (d_load1 Tryd.underlying3 rfl rfl (hM.cell 0 rfl rfl)) rfl hF (fun a hF => ?_)
        refine wl (d_lss rfl rfl) rfl hF (fun a hF => ?_)
        refine wl (d_move rfl) rfl hF (fun a hF => ?_)
        by_cases hkl : k < 1
        · have hdec_ : decide (k < 1) = true := decide_eq_true hkl
          rw [hdec_] at hF
          refine wlgs (c := true) rfl rfl rfl hF (fun a hF => ?_)
          refine wlgs (c := true) rfl rfl rfl hF (fun a hF => ?_)
          refine wlgs (c := true) rfl rfl rfl hF (fun a hF => ?_)
          refine wl (d_pick (b := true) rfl rfl) rfl hF (fun a hF => ?_)
          refine wl_nil ?_
          have hF := hF.sub (L' := [(0, (Value.agg (#[(Value.int .i64 k), (Value.int .i64 nm), (Value.slice ad ks.length cap)]))), (1, (Value.int .i64 (d : Int))), (2, (Value.pointer (some ⟨b1, 0, none⟩))), (4, (Value.bool false)), (5, (Value.int .i64 2)), (6, (Value.int .i64 2)), (10, (Value.int .i64 k)), (18, (Value.bool true)), (19, (Value.bool (decide (k = 1)))), (29, (Value.bool (decide (k = 2)))), (31, (Value.bool (decide (k = 6))))]) ⟨rfl, rfl, rfl, rfl, rfl, rfl, rfl, rfl, rfl, rfl, rfl, trivial⟩
          refine then_n ?_
          refine wp_cond_true (hF.eval rfl) ?_
          refine wp_seq ?_
          refine wp_region_lit ?_
          refine wl (d_assign rfl) rfl hF (fun a hF => ?_)
          refine wl_nil ?_
          have hF := hF.sub (L' := [(0, (Value.agg (#[(Value.int .i64 k), (Value.int .i64 nm), (Value.slice ad ks.length cap)]))), (1, (Value.int .i64 (d : Int))), (2, (Value.pointer (some ⟨b1, 0, none⟩))), (4, (Value.bool false)), (5, (Value.int .i64 2)), (6, (Value.int .i64 2)), (10, (Value.int .i64 k)), (18, (Value.bool true)), (19, (Value.bool (decide (k = 1)))), (29, (Value.bool (decide (k = 2)))), (31, (Value.bool (decide (k = 6))))]) ⟨rfl, rfl, rfl, rfl, rfl, rfl, rfl, rfl, rfl, rfl, rfl, trivial⟩
          refine then_n ?_
          refine wp_ret ?_
          refine block_ret ?_
          refine then_ret ?_
          refine body_ret hF (results1 Tryd.results78 (RV.tmp hF rfl)) ?_
          first | exact ⟨by rw [shaped_no1 (by omega)], hM.below⟩ | exact ⟨by rw [shaped_no2 hlo hhi (by omega)], hM.below⟩ | exact ⟨by rw [shaped_no3 hfalse], hM.below⟩ | exact ⟨by rw [shaped_yes (by omega) hlo hhi (by omega) hfin], hM.below⟩
        · have hdec_ : decide (k < 1) = false := decide_eq_false hkl
          rw [hdec_] at hF
          refine wlg rfl (d_fieldAddrQ Tryd.underlying26 (m := 0) sz3 rfl rfl rfl) rfl hF (fun a hF => ?_)
          refine wlg rfl (d_load1 Tryd.underlying3 rfl rfl (hM.cell 0 rfl rfl)) rfl hF (fun a hF => ?_)
          refine wlg rfl (d_gtr rfl rfl) rfl hF (fun a hF => ?_)
          refine wl (d_pick (b := false) rfl rfl) rfl hF (fun a hF => ?_)
          refine wl_nil ?_
          have hF := hF.sub (L' := [(0, (Value.agg (#[(Value.int .i64 k), (Value.int .i64 nm), (Value.slice ad ks.length cap)]))), (1, (Value.int .i64 (d : Int))), (2, (Value.pointer (some ⟨b1, 0, none⟩))), (4, (Value.bool false)), (5, (Value.int .i64 2)), (6, (Value.int .i64 2)), (10, (Value.int .i64 k)), (18, (Value.bool (decide (9 < k)))), (19, (Value.bool (decide (k = 1)))), (29, (Value.bool (decide (k = 2)))), (31, (Value.bool (decide (k = 6))))]) ⟨rfl, rfl, rfl, rfl, rfl, rfl, rfl, rfl, rfl, rfl, rfl, trivial⟩
          refine then_n ?_
          refine wp_if hF rfl (fun h => ?_) (fun h => ?_)
          · have hkh := of_decide_eq_true h
            clear h
            refine wp_seq ?_
            refine wp_region_lit ?_
            refine wl (d_assign rfl) rfl hF (fun a hF => ?_)
            refine wl_nil ?_
            have hF := hF.sub (L' := [(0, (Value.agg (#[(Value.int .i64 k), (Value.int .i64 nm), (Value.slice ad ks.length cap)]))), (1, (Value.int .i64 (d : Int))), (2, (Value.pointer (some ⟨b1, 0, none⟩))), (4, (Value.bool false)), (5, (Value.int .i64 2)), (6, (Value.int .i64 2)), (10, (Value.int .i64 k)), (18, (Value.bool (decide (9 < k)))), (19, (Value.bool (decide (k = 1)))), (29, (Value.bool (decide (k = 2)))), (31, (Value.bool (decide (k = 6))))]) ⟨rfl, rfl, rfl, rfl, rfl, rfl, rfl, rfl, rfl, rfl, rfl, trivial⟩
            refine then_n ?_
            refine wp_ret ?_
            refine block_ret ?_
            refine then_ret ?_
            refine body_ret hF (results1 Tryd.results78 (RV.tmp hF rfl)) ?_
            first | exact ⟨by rw [shaped_no1 (by omega)], hM.below⟩ | exact ⟨by rw [shaped_no2 hlo hhi (by omega)], hM.below⟩ | exact ⟨by rw [shaped_no3 hfalse], hM.below⟩ | exact ⟨by rw [shaped_yes (by omega) hlo hhi (by omega) hfin], hM.below⟩
          · have hkh := of_decide_eq_false h
            clear h
            have hlo : low k = 2 := (by simp [low, high, hk1, hk2, hk6])
            have hhi : high k = 2 := (by simp [low, high, hk1, hk2, hk6])
            refine wp_skip ?_
            refine block_n ?_
            refine then_n ?_
            refine wp_seq ?_
            refine wp_seq ?_
            refine wp_region_lit ?_
            refine wl (d_move rfl) rfl hF (fun a hF => ?_)
            refine wl (d_geq rfl rfl) rfl hF (fun a hF => ?_)
            refine wl (d_move rfl) rfl hF (fun a hF => ?_)
            by_cases hdd : 100 ≤ (d : Int)
            · have hdec_ : decide (100 ≤ (d : Int)) = true := decide_eq_true hdd
              rw [hdec_] at hF
              refine wlgs (c := true) rfl rfl rfl hF (fun a hF => ?_)
              refine wlgs (c := true) rfl rfl rfl hF (fun a hF => ?_)
              refine wlgs (c := true) rfl rfl rfl hF (fun a hF => ?_)
              refine wlgs (c := true) rfl rfl rfl hF (fun a hF => ?_)
              refine wlgs (c := true) rfl rfl rfl hF (fun a hF => ?_)
              refine wl (d_pick (b := true) rfl rfl) rfl hF (fun a hF => ?_)
              refine wl (d_move rfl) rfl hF (fun a hF => ?_)
              refine wlgs (c := true) rfl rfl rfl hF (fun a hF => ?_)
              refine wlgs (c := true) rfl rfl rfl hF (fun a hF => ?_)
              refine wlgs (c := true) rfl rfl rfl hF (fun a hF => ?_)
              refine wlgs (c := true) rfl rfl rfl hF (fun a hF => ?_)
              refine wlgs (c := true) rfl rfl rfl hF (fun a hF => ?_)
              refine wl (d_pick (b := true) rfl rfl) rfl hF (fun a hF => ?_)
              refine wl_nil ?_
              have hF := hF.sub (L' := [(0, (Value.agg (#[(Value.int .i64 k), (Value.int .i64 nm), (Value.slice ad ks.length cap)]))), (1, (Value.int .i64 (d : Int))), (2, (Value.pointer (some ⟨b1, 0, none⟩))), (4, (Value.bool false)), (5, (Value.int .i64 2)), (6, (Value.int .i64 2)), (10, (Value.int .i64 k)), (18, (Value.bool (decide (9 < k)))), (19, (Value.bool (decide (k = 1)))), (29, (Value.bool (decide (k = 2)))), (31, (Value.bool (decide (k = 6)))), (48, (Value.bool true))]) ⟨rfl, rfl, rfl, rfl, rfl, rfl, rfl, rfl, rfl, rfl, rfl, rfl, trivial⟩
              refine then_n ?_
              refine wp_cond_true (hF.eval rfl) ?_
              refine wp_seq ?_
              refine wp_region_lit ?_
              refine wl (d_assign rfl) rfl hF (fun a hF => ?_)
              refine wl_nil ?_
              have hF := hF.sub (L' := [(0, (Value.agg (#[(Value.int .i64 k), (Value.int .i64 nm), (Value.slice ad ks.length cap)]))), (1, (Value.int .i64 (d : Int))), (2, (Value.pointer (some ⟨b1, 0, none⟩))), (4, (Value.bool false)), (5, (Value.int .i64 2)), (6, (Value.int .i64 2)), (10, (Value.int .i64 k)), (18, (Value.bool (decide (9 < k)))), (19, (Value.bool (decide (k = 1)))), (29, (Value.bool (decide (k = 2)))), (31, (Value.bool (decide (k = 6)))), (48, (Value.bool true))]) ⟨rfl, rfl, rfl, rfl, rfl, rfl, rfl, rfl, rfl, rfl, rfl, rfl, trivial⟩
              refine then_n ?_
              refine wp_ret ?_
              refine then_ret ?_
              refine body_ret hF (results1 Tryd.results78 (RV.tmp hF rfl)) ?_
              first | exact ⟨by rw [shaped_no1 (by omega)], hM.below⟩ | exact ⟨by rw [shaped_no2 hlo hhi (by omega)], hM.below⟩ | exact ⟨by rw [shaped_no3 hfalse], hM.below⟩ | exact ⟨by rw [shaped_yes (by omega) hlo hhi (by omega) hfin], hM.below⟩
            · have hdec_ : decide (100 ≤ (d : Int)) = false := decide_eq_false hdd
              rw [hdec_] at hF
              refine wlg rfl (d_fieldAddrQ Tryd.underlying26 (m := 0) sz24 rfl rfl rfl) rfl hF (fun a hF => ?_)
              refine wlg rfl (d_load1 Tryd.underlying24 rfl rfl (hM.cell 0 rfl rfl)) rfl hF (fun a hF => ?_)
              refine wlg rfl (d_len_slice Tryd.underlying24 rfl) rfl hF (fun a hF => ?_)
              refine wlg rfl (d_move rfl) rfl hF (fun a hF => ?_)
              refine wlg rfl (d_lss rfl rfl) rfl hF (fun a hF => ?_)
              refine wl (d_pick (b := false) rfl rfl) rfl hF (fun a hF => ?_)
              refine wl (d_move rfl) rfl hF (fun a hF => ?_)
              by_cases hlow : (ks.length : Int) < 2
              · have hdec_ : decide ((ks.length : Int) < 2) = true := decide_eq_true hlow
                rw [hdec_] at hF
                refine wlgs (c := true) rfl rfl rfl hF (fun a hF => ?_)
                refine wlgs (c := true) rfl rfl rfl hF (fun a hF => ?_)
                refine wlgs (c := true) rfl rfl rfl hF (fun a hF => ?_)
                refine wlgs (c := true) rfl rfl rfl hF (fun a hF => ?_)
                refine wlgs (c := true) rfl rfl rfl hF (fun a hF => ?_)
                refine wl (d_pick (b := true) rfl rfl) rfl hF (fun a hF => ?_)
                refine wl_nil ?_
                have hF := hF.sub (L' := [(0, (Value.agg (#[(Value.int .i64 k), (Value.int .i64 nm), (Value.slice ad ks.length cap)]))), (1, (Value.int .i64 (d : Int))), (2, (Value.pointer (some ⟨b1, 0, none⟩))), (4, (Value.bool false)), (5, (Value.int .i64 2)), (6, (Value.int .i64 2)), (10, (Value.int .i64 k)), (18, (Value.bool (decide (9 < k)))), (19, (Value.bool (decide (k = 1)))), (29, (Value.bool (decide (k = 2)))), (31, (Value.bool (decide (k = 6)))), (48, (Value.bool true))]) ⟨rfl, rfl, rfl, rfl, rfl, rfl, rfl, rfl, rfl, rfl, rfl, rfl, trivial⟩
                refine then_n ?_
                refine wp_cond_true (hF.eval rfl) ?_
                refine wp_seq ?_
                refine wp_region_lit ?_
                refine wl (d_assign rfl) rfl hF (fun a hF => ?_)
                refine wl_nil ?_
                have hF := hF.sub (L' := [(0, (Value.agg (#[(Value.int .i64 k), (Value.int .i64 nm), (Value.slice ad ks.length cap)]))), (1, (Value.int .i64 (d : Int))), (2, (Value.pointer (some ⟨b1, 0, none⟩))), (4, (Value.bool false)), (5, (Value.int .i64 2)), (6, (Value.int .i64 2)), (10, (Value.int .i64 k)), (18, (Value.bool (decide (9 < k)))), (19, (Value.bool (decide (k = 1)))), (29, (Value.bool (decide (k = 2)))), (31, (Value.bool (decide (k = 6)))), (48, (Value.bool true))]) ⟨rfl, rfl, rfl, rfl, rfl, rfl, rfl, rfl, rfl, rfl, rfl, rfl, trivial⟩
                refine then_n ?_
                refine wp_ret ?_
                refine then_ret ?_
                refine body_ret hF (results1 Tryd.results78 (RV.tmp hF rfl)) ?_
                first | exact ⟨by rw [shaped_no1 (by omega)], hM.below⟩ | exact ⟨by rw [shaped_no2 hlo hhi (by omega)], hM.below⟩ | exact ⟨by rw [shaped_no3 hfalse], hM.below⟩ | exact ⟨by rw [shaped_yes (by omega) hlo hhi (by omega) hfin], hM.below⟩
              · have hdec_ : decide ((ks.length : Int) < 2) = false := decide_eq_false hlow
                rw [hdec_] at hF
                refine wlg rfl (d_fieldAddrQ Tryd.underlying26 (m := 0) sz24 rfl rfl rfl) rfl hF (fun a hF => ?_)
                refine wlg rfl (d_load1 Tryd.underlying24 rfl rfl (hM.cell 0 rfl rfl)) rfl hF (fun a hF => ?_)
                refine wlg rfl (d_len_slice Tryd.underlying24 rfl) rfl hF (fun a hF => ?_)
                refine wlg rfl (d_move rfl) rfl hF (fun a hF => ?_)
                refine wlg rfl (d_gtr rfl rfl) rfl hF (fun a hF => ?_)
                refine wl (d_pick (b := false) rfl rfl) rfl hF (fun a hF => ?_)
                refine wl_nil ?_
                have hF := hF.sub (L' := [(0, (Value.agg (#[(Value.int .i64 k), (Value.int .i64 nm), (Value.slice ad ks.length cap)]))), (1, (Value.int .i64 (d : Int))), (2, (Value.pointer (some ⟨b1, 0, none⟩))), (4, (Value.bool false)), (5, (Value.int .i64 2)), (6, (Value.int .i64 2)), (10, (Value.int .i64 k)), (18, (Value.bool (decide (9 < k)))), (19, (Value.bool (decide (k = 1)))), (29, (Value.bool (decide (k = 2)))), (31, (Value.bool (decide (k = 6)))), (48, (Value.bool (decide (2 < (ks.length : Int)))))]) ⟨rfl, rfl, rfl, rfl, rfl, rfl, rfl, rfl, rfl, rfl, rfl, rfl, trivial⟩
                refine then_n ?_
                refine wp_if hF rfl (fun h => ?_) (fun h => ?_)
                · have hhigh := of_decide_eq_true h
                  clear h
                  refine wp_seq ?_
                  refine wp_region_lit ?_
                  refine wl (d_assign rfl) rfl hF (fun a hF => ?_)
                  refine wl_nil ?_
                  have hF := hF.sub (L' := [(0, (Value.agg (#[(Value.int .i64 k), (Value.int .i64 nm), (Value.slice ad ks.length cap)]))), (1, (Value.int .i64 (d : Int))), (2, (Value.pointer (some ⟨b1, 0, none⟩))), (4, (Value.bool false)), (5, (Value.int .i64 2)), (6, (Value.int .i64 2)), (10, (Value.int .i64 k)), (18, (Value.bool (decide (9 < k)))), (19, (Value.bool (decide (k = 1)))), (29, (Value.bool (decide (k = 2)))), (31, (Value.bool (decide (k = 6)))), (48, (Value.bool (decide (2 < (ks.length : Int)))))]) ⟨rfl, rfl, rfl, rfl, rfl, rfl, rfl, rfl, rfl, rfl, rfl, rfl, trivial⟩
                  refine then_n ?_
                  refine wp_ret ?_
                  refine then_ret ?_
                  refine body_ret hF (results1 Tryd.results78 (RV.tmp hF rfl)) ?_
                  first | exact ⟨by rw [shaped_no1 (by omega)], hM.below⟩ | exact ⟨by rw [shaped_no2 hlo hhi (by omega)], hM.below⟩ | exact ⟨by rw [shaped_no3 hfalse], hM.below⟩ | exact ⟨by rw [shaped_yes (by omega) hlo hhi (by omega) hfin], hM.below⟩
                · have hhigh := of_decide_eq_false h
                  clear h
                  refine wp_skip ?_
                  refine then_n ?_
                  refine wp_seq ?_
                  refine wp_seq ?_
                  refine wp_region_lit ?_
                  refine wl (d_fieldAddrQ Tryd.underlying26 (m := 0) sz24 rfl rfl rfl) rfl hF (fun a hF => ?_)
                  refine wl (d_load1 Tryd.underlying24 rfl rfl (hM.cell 0 rfl rfl)) rfl hF (fun a hF => ?_)
                  refine wl (d_len_slice Tryd.underlying24 rfl) rfl hF (fun a hF => ?_)
                  refine wl (d_move rfl) rfl hF (fun a hF => ?_)
                  refine wl_nil ?_
                  have hF := hF.sub (L' := [(0, (Value.agg (#[(Value.int .i64 k), (Value.int .i64 nm), (Value.slice ad ks.length cap)]))), (1, (Value.int .i64 (d : Int))), (2, (Value.pointer (some ⟨b1, 0, none⟩))), (4, (Value.bool false)), (5, (Value.int .i64 2)), (6, (Value.int .i64 2)), (10, (Value.int .i64 k)), (18, (Value.bool (decide (9 < k)))), (19, (Value.bool (decide (k = 1)))), (29, (Value.bool (decide (k = 2)))), (31, (Value.bool (decide (k = 6)))), (48, (Value.bool (decide (2 < (ks.length : Int))))), (50, (Value.slice ad ks.length cap)), (51, (Value.int .i64 (ks.length : Int))), (52, (Value.int .i64 0))]) ⟨rfl, rfl, rfl, rfl, rfl, rfl, rfl, rfl, rfl, rfl, rfl, rfl, rfl, rfl, rfl, trivial⟩
                  refine then_n ?_
                  refine wp_block ?_
                  refine wp_loop_k (fun fu_ a w => ∃ (i : Nat), fu_ = ks.length - i ∧ (i ≤ ks.length) ∧ (shapedL (ks.drop i) (d + 1) = shapedL ks (d + 1)) ∧ Frm a 62 [(1, (Value.int .i64 (d : Int))), (2, (Value.pointer (some ⟨b1, 0, none⟩))), (50, (Value.slice ad ks.length cap)), (51, (Value.int .i64 (ks.length : Int))), (52, (Value.int .i64 (i : Int)))] ∧ Mem w0 w [(b1, #[(Value.int .i64 k), (Value.int .i64 nm), (Value.slice ad ks.length cap)], 26)]) _ ⟨0, rfl, (by omega), rfl, hF.sub ⟨rfl, rfl, rfl, rfl, rfl, trivial⟩, ?_⟩ ?_
                  · exact hM
                  rintro _ a w ⟨i, rfl, hl4_0, hl4_1, hF, hM⟩
                  have hle := hl4_0
                  have hsh := hl4_1
                  refine wp_seq ?_
                  refine wp_region_lit ?_
                  refine wl (d_lss rfl rfl) rfl hF (fun a hF => ?_)
                  refine wl_nil ?_
                  have hF := hF.sub (L' := [(1, (Value.int .i64 (d : Int))), (2, (Value.pointer (some ⟨b1, 0, none⟩))), (50, (Value.slice ad ks.length cap)), (51, (Value.int .i64 (ks.length : Int))), (52, (Value.int .i64 (i : Int))), (53, (Value.bool (decide ((i : Int) < (ks.length : Int)))))]) ⟨rfl, rfl, rfl, rfl, rfl, rfl, trivial⟩
                  refine then_n ?_
                  refine wp_seq ?_
                  refine wp_if hF rfl (fun h => ?_) (fun h => ?_)
                  · have hlt := of_decide_eq_true h
                    clear h
                    obtain ⟨b0, o0, hae, hb0, hat0⟩ := hsl (by omega)
                    obtain ⟨t1, hi⟩ : ∃ t, ks[i]? = some t := ⟨_, List.getElem?_eq_getElem (by omega)⟩
                    have hmem : t1 ∈ ks := List.mem_of_getElem? hi
                    obtain ⟨a1, ha1, hat1⟩ := hks.at hat0 i t1 hi
                    obtain ⟨k1, nm1, ad1, l1, cap1, rfl⟩ := ha1.form
                    refine wp_skip ?_
                    refine then_n ?_
                    refine wp_seq ?_
                    refine wp_block ?_
                    refine wp_seq ?_
                    refine wp_region_lit ?_
                    refine wl (d_ixSm (b := b0) (o := o0) Tryd.underlying24 sz26 (by rw [← hae]; rfl) rfl rfl (by omega)) rfl hF (fun a hF => ?_)
                    refine wl (d_loadC Tryd.underlying26 rfl sz26 rfl (hat1.mv (Gr.ch hM.below) (by simp)) rfl) rfl hF (fun a hF => ?_)
                    refine wlR (ok_alloc z26) rfl hF ?_
                    rintro _ w a ⟨b5, rfl, hnb_⟩ hF
                    have hM : Mem w0 w [(b1, #[(Value.int .i64 k), (Value.int .i64 nm), (Value.slice ad ks.length cap)], 26), (b5, #[(Value.int .i64 0), (Value.int .i64 0), (Value.slice none 0 0)], 26)] := hM.alloc hnb_
                    refine wl0R (ok_storeA (c' := #[(Value.int .i64 k1), (Value.int .i64 nm1), (Value.slice ad1 l1 cap1)]) sz26 rfl rfl rfl (fun v hv => by simp at hv; rcases hv with rfl | rfl | rfl <;> rfl) (hM.at 1 rfl) rfl) hF ?_
                    rintro w a hu hF
                    have hM : Mem w0 w [(b1, #[(Value.int .i64 k), (Value.int .i64 nm), (Value.slice ad ks.length cap)], 26), (b5, #[(Value.int .i64 k1), (Value.int .i64 nm1), (Value.slice ad1 l1 cap1)], 26)] := hM.upd 1 rfl hu
                    refine wl_nil ?_
                    have hF := hF.sub (L' := [(1, (Value.int .i64 (d : Int))), (2, (Value.pointer (some ⟨b1, 0, none⟩))), (8, (Value.pointer (some ⟨b5, 0, none⟩))), (50, (Value.slice ad ks.length cap)), (51, (Value.int .i64 (ks.length : Int))), (52, (Value.int .i64 (i : Int))), (53, (Value.bool (decide ((i : Int) < (ks.length : Int)))))]) ⟨rfl, rfl, rfl, rfl, rfl, rfl, rfl, trivial⟩
                    refine then_n ?_
                    refine wp_seq ?_
                    refine wp_region_lit ?_
                    refine wl (d_loadA Tryd.underlying26 rfl sz26 rfl (hM.at 1 rfl) rfl) rfl hF (fun a hF => ?_)
                    refine wl (d_move rfl) rfl hF (fun a hF => ?_)
                    refine wl (d_add rfl rfl (wrap_i64 (by omega) (by omega))) rfl hF (fun a hF => ?_)
                    refine wlR (ok_call c78 rfl (ih t1 hmem X _ (d + 1) _ (IsT.mv (Gr.ch hM.below) (by simp) (fun x hx => .inl hx) t1 _ ha1) (by omega))) rfl hF ?_
                    rintro _ w a ⟨rfl, hg⟩ hF
                    have hM := hM.call hg
                    refine wl (d_not rfl) rfl hF (fun a hF => ?_)
                    refine wl_nil ?_
                    have hF := hF.sub (L' := [(1, (Value.int .i64 (d : Int))), (2, (Value.pointer (some ⟨b1, 0, none⟩))), (8, (Value.pointer (some ⟨b5, 0, none⟩))), (50, (Value.slice ad ks.length cap)), (51, (Value.int .i64 (ks.length : Int))), (52, (Value.int .i64 (i : Int))), (53, (Value.bool (decide ((i : Int) < (ks.length : Int))))), (60, (Value.bool (!(shaped t1 (d + 1)))))]) ⟨rfl, rfl, rfl, rfl, rfl, rfl, rfl, rfl, trivial⟩
                    refine then_n ?_
                    refine wp_if hF rfl (fun h => ?_) (fun h => ?_)
                    · have hs := h
                      clear h
                      have hfalse : shapedL ks (d + 1) = false := by rw [← hsh, shapedL_drop hi]; simp at hs; simp [hs]
                      refine wp_seq ?_
                      refine wp_region_lit ?_
                      refine wl (d_assign rfl) rfl hF (fun a hF => ?_)
                      refine wl_nil ?_
                      have hF := hF.sub (L' := [(1, (Value.int .i64 (d : Int))), (2, (Value.pointer (some ⟨b1, 0, none⟩))), (4, (Value.bool false)), (8, (Value.pointer (some ⟨b5, 0, none⟩))), (50, (Value.slice ad ks.length cap)), (51, (Value.int .i64 (ks.length : Int))), (52, (Value.int .i64 (i : Int))), (53, (Value.bool (decide ((i : Int) < (ks.length : Int))))), (60, (Value.bool (!(shaped t1 (d + 1)))))]) ⟨rfl, rfl, rfl, rfl, rfl, rfl, rfl, rfl, rfl, trivial⟩
                      refine then_n ?_
                      refine wp_ret ?_
                      refine block_ret ?_
                      refine then_ret ?_
                      refine then_ret ?_
                      refine block_ret ?_
                      refine then_ret ?_
                      refine body_ret hF (results1 Tryd.results78 (RV.tmp hF rfl)) ?_
                      first | exact ⟨by rw [shaped_no1 (by omega)], hM.below⟩ | exact ⟨by rw [shaped_no2 hlo hhi (by omega)], hM.below⟩ | exact ⟨by rw [shaped_no3 hfalse], hM.below⟩ | exact ⟨by rw [shaped_yes (by omega) hlo hhi (by omega) hfin], hM.below⟩
                    · have hs := h
                      clear h
                      have hs : shaped t1 (d + 1) = true := by simpa using hs
                      refine wp_skip ?_
                      refine block_n ?_
                      refine then_n ?_
                      refine wp_region_lit ?_
                      refine wl (d_add rfl rfl (wrap_i64 (by omega) (by omega))) rfl hF (fun a hF => ?_)
                      refine wl (d_move rfl) rfl hF (fun a hF => ?_)
                      refine wl_nil ?_
                      have hF := hF.sub (L' := [(1, (Value.int .i64 (d : Int))), (2, (Value.pointer (some ⟨b1, 0, none⟩))), (8, (Value.pointer (some ⟨b5, 0, none⟩))), (50, (Value.slice ad ks.length cap)), (51, (Value.int .i64 (ks.length : Int))), (52, (Value.int .i64 ((i : Int) + 1))), (53, (Value.bool (decide ((i : Int) < (ks.length : Int))))), (60, (Value.bool (!(shaped t1 (d + 1)))))]) ⟨rfl, rfl, rfl, rfl, rfl, rfl, rfl, rfl, trivial⟩
                      refine then_n ?_
                      refine ⟨_, ?_, i + 1, rfl, (by omega), (by rw [← hsh, shapedL_drop hi, hs, Bool.true_and]), hF.sub ⟨rfl, rfl, rfl, rfl, rfl, trivial⟩, ?_⟩
                      · omega
                      exact hM.sub (by simp)
                  · have hlt := of_decide_eq_false h
                    clear h
                    have hi : i = ks.length := by omega
                    have hfin : shapedL ks (d + 1) = true := by rw [← hsh, hi, List.drop_length]; rfl
                    refine wp_exit ?_
                    refine then_exit ?_
                    refine then_exit ?_
                    refine block_exit ?_
                    refine then_n ?_
                    refine wp_seq ?_
                    refine wp_region_lit ?_
                    refine wl (d_assign rfl) rfl hF (fun a hF => ?_)
                    refine wl_nil ?_
                    have hF := hF.sub (L' := [(1, (Value.int .i64 (d : Int))), (2, (Value.pointer (some ⟨b1, 0, none⟩))), (4, (Value.bool true)), (50, (Value.slice ad ks.length cap)), (51, (Value.int .i64 (ks.length : Int))), (52, (Value.int .i64 (i : Int))), (53, (Value.bool (decide ((i : Int) < (ks.length : Int)))))]) ⟨rfl, rfl, rfl, rfl, rfl, rfl, rfl, trivial⟩
                    refine then_n ?_
                    refine wp_ret ?_
                    refine body_ret hF (results1 Tryd.results78 (RV.tmp hF rfl)) ?_
                    first | exact ⟨by rw [shaped_no1 (by omega)], hM.below⟩ | exact ⟨by rw [shaped_no2 hlo hhi (by omega)], hM.below⟩ | exact ⟨by rw [shaped_no3 hfalse], hM.below⟩ | exact ⟨by rw [shaped_yes (by omega) hlo hhi (by omega) hfin], hM.below⟩
theorem shaped_calls (t : Tm) : ∀ (X : List Nat) (vs : List Value) (d : Nat) (w : World), IsT w X t vs → d ≤ 1000 → Calls Tryd.prog 78 (List.toArray [.agg vs.toArray, .int .i64 d]) w (Ret fun v w' => v = .bool (shaped t d) ∧ Gr w w') := by
  refine Tm.ind (p := fun t => ∀ (X : List Nat) (vs : List Value) (d : Nat) (w : World), IsT w X t vs → d ≤ 1000 → Calls Tryd.prog 78 (List.toArray [.agg vs.toArray, .int .i64 d]) w (Ret fun v w' => v = .bool (shaped t d) ∧ Gr w w')) ?_ t
  intro k nm ks ih X vs d w ht hd
  simp only [IsT] at ht
  obtain ⟨sl, xs, rfl, h1, h2⟩ := ht
  obtain ⟨ad, cap, rfl, h3⟩ := h1.form
  exact shaped_step ih d hd w h3 h2
end Go.Mi.Term
