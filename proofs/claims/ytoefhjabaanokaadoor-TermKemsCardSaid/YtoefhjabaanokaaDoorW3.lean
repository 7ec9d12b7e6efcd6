/- Walks: what functions of term return. -/
import Derived.Test.YtoefhjabaanokaaDoorTf
import Derived.Test.YtoefhjabaanokaaDoorW2
namespace Go.Mi.Term
open Go.Mi Go.Proofs Go.RowKit
set_option maxRecDepth 100000 in
theorem May_calls {t : Tm} {X : List Nat} {k nm : Int} {ad : Option Addr} {l cap : Nat} (w0 : World) (ht : IsT w0 X t [.int .i64 k, .int .i64 nm, .slice ad l cap]) : Calls Tryd.prog 42 (List.toArray [.agg #[.int .i64 k, .int .i64 nm, .slice ad l cap]]) w0 (Ret fun v w' => v = .bool (may t) ∧ Gr w0 w') := by
  refine calls_of Tryd.func42 rfl Tryd.ntmps42 rfl fun a hF => ?_
  have hM := Mem.start w0
  have hF := hF.sub (L' := [(0, (Value.agg (#[(Value.int .i64 k), (Value.int .i64 nm), (Value.slice ad l cap)])))]) ⟨rfl, trivial⟩
  refine wp_seq ?_
  refine wp_region_lit ?_
  refine wlR (ok_box rfl) rfl hF ?_
  rintro _ w a ⟨b1, rfl, hnb_⟩ hF
  have hM : Mem w0 w [(b1, #[(Value.int .i64 k), (Value.int .i64 nm), (Value.slice ad l cap)], 26)] := hM.alloc hnb_
  refine wl (d_assign rfl) rfl hF (fun a hF => ?_)
  refine wl_nil ?_
  have hF := hF.sub (L' := [(0, (Value.agg (#[(Value.int .i64 k), (Value.int .i64 nm), (Value.slice ad l cap)]))), (1, (Value.pointer (some ⟨b1, 0, none⟩))), (2, (Value.bool false))]) ⟨rfl, rfl, rfl, trivial⟩
  refine then_n ?_
  refine wp_seq ?_
  refine wp_region_lit ?_
  refine wl (d_loadA Tryd.underlying26 rfl sz26 rfl (hM.at 0 rfl) rfl) rfl hF (fun a hF => ?_)
  refine wlR (ok_call c77 rfl (Size_calls _ (IsT.mv (Gr.ch hM.below) (by simp) (fun x hx => .inl hx) t _ ht))) rfl hF ?_
  rintro _ w a ⟨rfl, hg⟩ hF
  have hM := hM.call hg
  refine wl (d_leq rfl rfl) rfl hF (fun a hF => ?_)
  refine wl (d_move rfl) rfl hF (fun a hF => ?_)
  by_cases hsz : ((size t : Nat) : Int) ≤ 5000
  · have hdec_ : decide (((size t : Nat) : Int) ≤ 5000) = true := decide_eq_true hsz
    rw [hdec_] at hF
    refine wlg rfl (d_loadA Tryd.underlying26 rfl sz26 rfl (hM.at 0 rfl) rfl) rfl hF (fun a hF => ?_)
    refine wlgR rfl (ok_call c78 rfl (shaped_calls t X _ 0 _ (IsT.mv (Gr.ch hM.below) (by simp) (fun x hx => .inl hx) t _ ht) (by omega))) rfl hF ?_
    rintro _ w a ⟨rfl, hg⟩ hF
    have hM := hM.call hg
    refine wl (d_pick (b := true) rfl rfl) rfl hF (fun a hF => ?_)
    refine wl (d_assign rfl) rfl hF (fun a hF => ?_)
    refine wl_nil ?_
    have hF := hF.sub (L' := [(0, (Value.agg (#[(Value.int .i64 k), (Value.int .i64 nm), (Value.slice ad l cap)]))), (1, (Value.pointer (some ⟨b1, 0, none⟩))), (2, (Value.bool (shaped t 0)))]) ⟨rfl, rfl, rfl, trivial⟩
    refine then_n ?_
    refine wp_ret ?_
    refine body_ret hF (results1 Tryd.results42 (RV.tmp hF rfl)) ?_
    first | exact ⟨by rw [may_yes (by omega)], hM.below⟩ | exact ⟨by rw [may_no (by omega)], hM.below⟩
  · have hdec_ : decide (((size t : Nat) : Int) ≤ 5000) = false := decide_eq_false hsz
    rw [hdec_] at hF
    refine wlgs (c := false) rfl rfl rfl hF (fun a hF => ?_)
    refine wlgs (c := false) rfl rfl rfl hF (fun a hF => ?_)
    refine wl (d_pick (b := false) rfl rfl) rfl hF (fun a hF => ?_)
    refine wl (d_assign rfl) rfl hF (fun a hF => ?_)
    refine wl_nil ?_
    have hF := hF.sub (L' := [(0, (Value.agg (#[(Value.int .i64 k), (Value.int .i64 nm), (Value.slice ad l cap)]))), (1, (Value.pointer (some ⟨b1, 0, none⟩))), (2, (Value.bool false))]) ⟨rfl, rfl, rfl, trivial⟩
    refine then_n ?_
    refine wp_ret ?_
    refine body_ret hF (results1 Tryd.results42 (RV.tmp hF rfl)) ?_
    first | exact ⟨by rw [may_yes (by omega)], hM.below⟩ | exact ⟨by rw [may_no (by omega)], hM.below⟩
end Go.Mi.Term
