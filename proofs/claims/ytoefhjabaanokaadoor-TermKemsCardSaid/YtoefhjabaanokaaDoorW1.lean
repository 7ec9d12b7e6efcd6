/- Walks: what functions of term return. -/
import Derived.Test.YtoefhjabaanokaaDoorTf
namespace Go.Mi.Term
open Go.Mi Go.Proofs Go.RowKit
set_option maxRecDepth 100000 in
theorem counted_step {k nm : Int} {ks : List Tm} (ih : ∀ t, t ∈ ks → ∀ (X : List Nat) (vs : List Value) (n : Nat) (w : World), IsT w X t vs → n ≤ 5000 → Calls Tryd.prog 93 (List.toArray [.agg vs.toArray, .int .i64 n]) w (Ret fun v w' => v = .int .i64 (cnt t n) ∧ Gr w w'))
    {X : List Nat} {ad : Option Addr} {cap : Nat} {xs : List Value} (n : Nat) (hn : n ≤ 5000) (w0 : World) (hsl : 0 < ks.length → ∃ b o, ad = some ⟨b, o, none⟩ ∧ b ∉ X ∧ At w0 b o xs) (hks : IsTs w0 X ks xs) :
    Calls Tryd.prog 93 (List.toArray [.agg #[.int .i64 k, .int .i64 nm, .slice ad ks.length cap], .int .i64 n]) w0 (Ret fun v w' => v = .int .i64 (cntL ks (n + 1)) ∧ Gr w0 w') := by
  refine calls_of Tryd.func93 rfl Tryd.ntmps93 rfl fun a hF => ?_
  have hM := Mem.start w0
  have hF := hF.sub (L' := [(0, (Value.agg (#[(Value.int .i64 k), (Value.int .i64 nm), (Value.slice ad ks.length cap)]))), (1, (Value.int .i64 (n : Int)))]) ⟨rfl, rfl, trivial⟩
  refine wp_seq ?_
  refine wp_region_lit ?_
  refine wlR (ok_box rfl) rfl hF ?_
  rintro _ w a ⟨b1, rfl, hnb_⟩ hF
  have hM : Mem w0 w [(b1, #[(Value.int .i64 k), (Value.int .i64 nm), (Value.slice ad ks.length cap)], 26)] := hM.alloc hnb_
  refine wl (d_assign rfl) rfl hF (fun a hF => ?_)
  refine wl_nil ?_
  have hF := hF.sub (L' := [(0, (Value.agg (#[(Value.int .i64 k), (Value.int .i64 nm), (Value.slice ad ks.length cap)]))), (1, (Value.int .i64 (n : Int))), (2, (Value.pointer (some ⟨b1, 0, none⟩))), (4, (Value.int .i64 0))]) ⟨rfl, rfl, rfl, rfl, trivial⟩
  refine then_n ?_
  refine wp_seq ?_
  refine wp_region_lit ?_
  refine wl (d_move rfl) rfl hF (fun a hF => ?_)
  refine wl (d_add rfl rfl (wrap_i64 (by omega) (by omega))) rfl hF (fun a hF => ?_)
  refine wl (d_assign rfl) rfl hF (fun a hF => ?_)
  refine wl_nil ?_
  have hF := hF.sub (L' := [(0, (Value.agg (#[(Value.int .i64 k), (Value.int .i64 nm), (Value.slice ad ks.length cap)]))), (1, (Value.int .i64 ((n + 1 : Nat) : Int))), (2, (Value.pointer (some ⟨b1, 0, none⟩))), (4, (Value.int .i64 0))]) ⟨rfl, rfl, rfl, rfl, trivial⟩
  refine then_n ?_
  refine wp_seq ?_
  refine wp_seq ?_
  refine wp_region_lit ?_
  refine wl (d_fieldAddrQ Tryd.underlying26 (m := 0) sz24 rfl rfl rfl) rfl hF (fun a hF => ?_)
  refine wl (d_load1 Tryd.underlying24 rfl rfl (hM.cell 0 rfl rfl)) rfl hF (fun a hF => ?_)
  refine wl (d_len_slice Tryd.underlying24 rfl) rfl hF (fun a hF => ?_)
  refine wl (d_move rfl) rfl hF (fun a hF => ?_)
  refine wl_nil ?_
  have hF := hF.sub (L' := [(0, (Value.agg (#[(Value.int .i64 k), (Value.int .i64 nm), (Value.slice ad ks.length cap)]))), (1, (Value.int .i64 ((n + 1 : Nat) : Int))), (2, (Value.pointer (some ⟨b1, 0, none⟩))), (4, (Value.int .i64 0)), (10, (Value.slice ad ks.length cap)), (11, (Value.int .i64 (ks.length : Int))), (12, (Value.int .i64 0))]) ⟨rfl, rfl, rfl, rfl, rfl, rfl, rfl, trivial⟩
  refine then_n ?_
  refine wp_block ?_
  refine wp_loop_k (fun fu_ a w => ∃ (i m : Nat), fu_ = ks.length - i ∧ (i ≤ ks.length) ∧ (m ≤ 5001) ∧ (cntL (ks.drop i) m = cntL ks (n + 1)) ∧ (i ≤ m) ∧ Frm a 23 [(1, (Value.int .i64 (m : Int))), (2, (Value.pointer (some ⟨b1, 0, none⟩))), (10, (Value.slice ad ks.length cap)), (11, (Value.int .i64 (ks.length : Int))), (12, (Value.int .i64 (i : Int)))] ∧ Mem w0 w [(b1, #[(Value.int .i64 k), (Value.int .i64 nm), (Value.slice ad ks.length cap)], 26)]) _ ⟨0, n + 1, rfl, (by omega), (by omega), rfl, (by omega), hF.sub ⟨rfl, rfl, rfl, rfl, rfl, trivial⟩, ?_⟩ ?_
  · exact hM
  rintro _ a w ⟨i, m, rfl, hl1_0, hl1_1, hl1_2, hl1_3, hF, hM⟩
  refine wp_seq ?_
  refine wp_region_lit ?_
  refine wl (d_lss rfl rfl) rfl hF (fun a hF => ?_)
  refine wl_nil ?_
  have hF := hF.sub (L' := [(1, (Value.int .i64 (m : Int))), (2, (Value.pointer (some ⟨b1, 0, none⟩))), (10, (Value.slice ad ks.length cap)), (11, (Value.int .i64 (ks.length : Int))), (12, (Value.int .i64 (i : Int))), (13, (Value.bool (decide ((i : Int) < (ks.length : Int)))))]) ⟨rfl, rfl, rfl, rfl, rfl, rfl, trivial⟩
  refine then_n ?_
  refine wp_seq ?_
  refine wp_if hF rfl (fun h => ?_) (fun h => ?_)
  · have hlt := of_decide_eq_true h
    clear h
    obtain ⟨b0, o0, hae, hb0, hat0⟩ := hsl (by omega)
    obtain ⟨t1, hi⟩ : ∃ t, ks[i]? = some t := ⟨_, List.getElem?_eq_getElem (by omega)⟩
    have hmem : t1 ∈ ks := List.mem_of_getElem? hi
    obtain ⟨a1, ha1, hat1⟩ := hks.at hat0 i t1 hi
    obtain ⟨k1, nm1, ad1, l1, cap1, rfl⟩ := ha1.form
    refine wp_skip ?_
    refine then_n ?_
    refine wp_seq ?_
    refine wp_block ?_
    refine wp_seq ?_
    refine wp_region_lit ?_
    refine wl (d_ixSm (b := b0) (o := o0) Tryd.underlying24 sz26 (by rw [← hae]; rfl) rfl rfl (by omega)) rfl hF (fun a hF => ?_)
    refine wl (d_loadC Tryd.underlying26 rfl sz26 rfl (hat1.mv (Gr.ch hM.below) (by simp)) rfl) rfl hF (fun a hF => ?_)
    refine wlR (ok_alloc z26) rfl hF ?_
    rintro _ w a ⟨b2, rfl, hnb_⟩ hF
    have hM : Mem w0 w [(b1, #[(Value.int .i64 k), (Value.int .i64 nm), (Value.slice ad ks.length cap)], 26), (b2, #[(Value.int .i64 0), (Value.int .i64 0), (Value.slice none 0 0)], 26)] := hM.alloc hnb_
    refine wl0R (ok_storeA (c' := #[(Value.int .i64 k1), (Value.int .i64 nm1), (Value.slice ad1 l1 cap1)]) sz26 rfl rfl rfl (fun v hv => by simp at hv; rcases hv with rfl | rfl | rfl <;> rfl) (hM.at 1 rfl) rfl) hF ?_
    rintro w a hu hF
    have hM : Mem w0 w [(b1, #[(Value.int .i64 k), (Value.int .i64 nm), (Value.slice ad ks.length cap)], 26), (b2, #[(Value.int .i64 k1), (Value.int .i64 nm1), (Value.slice ad1 l1 cap1)], 26)] := hM.upd 1 rfl hu
    refine wl_nil ?_
    have hF := hF.sub (L' := [(1, (Value.int .i64 (m : Int))), (2, (Value.pointer (some ⟨b1, 0, none⟩))), (6, (Value.pointer (some ⟨b2, 0, none⟩))), (10, (Value.slice ad ks.length cap)), (11, (Value.int .i64 (ks.length : Int))), (12, (Value.int .i64 (i : Int))), (13, (Value.bool (decide ((i : Int) < (ks.length : Int)))))]) ⟨rfl, rfl, rfl, rfl, rfl, rfl, rfl, trivial⟩
    refine then_n ?_
    refine wp_seq ?_
    refine wp_seq ?_
    refine wp_region_lit ?_
    refine wl (d_move rfl) rfl hF (fun a hF => ?_)
    refine wl (d_gtr rfl rfl) rfl hF (fun a hF => ?_)
    refine wl_nil ?_
    have hF := hF.sub (L' := [(1, (Value.int .i64 (m : Int))), (2, (Value.pointer (some ⟨b1, 0, none⟩))), (6, (Value.pointer (some ⟨b2, 0, none⟩))), (10, (Value.slice ad ks.length cap)), (11, (Value.int .i64 (ks.length : Int))), (12, (Value.int .i64 (i : Int))), (13, (Value.bool (decide ((i : Int) < (ks.length : Int))))), (17, (Value.bool (decide (5000 < (m : Int)))))]) ⟨rfl, rfl, rfl, rfl, rfl, rfl, rfl, rfl, trivial⟩
    refine then_n ?_
    refine wp_if hF rfl (fun h => ?_) (fun h => ?_)
    · have hbig := of_decide_eq_true h
      clear h
      have hfin : m = cntL ks (n + 1) := by rw [← hl1_2, cntL_big (by omega)]
      refine wp_exit ?_
      refine then_exit ?_
      refine block_exit_ne (by decide) ?_
      refine then_exit ?_
      refine then_exit ?_
      refine block_exit ?_
      refine then_n ?_
      refine wp_seq ?_
      refine wp_region_lit ?_
      refine wl (d_move rfl) rfl hF (fun a hF => ?_)
      refine wl (d_assign rfl) rfl hF (fun a hF => ?_)
      refine wl_nil ?_
      have hF := hF.sub (L' := [(1, (Value.int .i64 (m : Int))), (2, (Value.pointer (some ⟨b1, 0, none⟩))), (4, (Value.int .i64 (m : Int))), (6, (Value.pointer (some ⟨b2, 0, none⟩))), (10, (Value.slice ad ks.length cap)), (11, (Value.int .i64 (ks.length : Int))), (12, (Value.int .i64 (i : Int))), (13, (Value.bool (decide ((i : Int) < (ks.length : Int))))), (17, (Value.bool (decide (5000 < (m : Int)))))]) ⟨rfl, rfl, rfl, rfl, rfl, rfl, rfl, rfl, rfl, trivial⟩
      refine then_n ?_
      refine wp_ret ?_
      refine body_ret hF (results1 Tryd.results93 (RV.tmp hF rfl)) ?_
      exact ⟨by rw [hfin], hM.below⟩
    · have hbig := of_decide_eq_false h
      clear h
      refine wp_skip ?_
      refine then_n ?_
      refine wp_region_lit ?_
      refine wl (d_loadA Tryd.underlying26 rfl sz26 rfl (hM.at 1 rfl) rfl) rfl hF (fun a hF => ?_)
      refine wl (d_move rfl) rfl hF (fun a hF => ?_)
      refine wlR (ok_call c93 rfl (ih t1 hmem X _ m _ (IsT.mv (Gr.ch hM.below) (by simp) (fun x hx => .inl hx) t1 _ ha1) (by omega))) rfl hF ?_
      rintro _ w a ⟨rfl, hg⟩ hF
      have hM := hM.call hg
      refine wl (d_assign rfl) rfl hF (fun a hF => ?_)
      refine wl_nil ?_
      have hF := hF.sub (L' := [(1, (Value.int .i64 ((cnt t1 m : Nat) : Int))), (2, (Value.pointer (some ⟨b1, 0, none⟩))), (6, (Value.pointer (some ⟨b2, 0, none⟩))), (10, (Value.slice ad ks.length cap)), (11, (Value.int .i64 (ks.length : Int))), (12, (Value.int .i64 (i : Int))), (13, (Value.bool (decide ((i : Int) < (ks.length : Int))))), (17, (Value.bool (decide (5000 < (m : Int)))))]) ⟨rfl, rfl, rfl, rfl, rfl, rfl, rfl, rfl, trivial⟩
      refine block_n ?_
      refine then_n ?_
      refine wp_region_lit ?_
      refine wl (d_add rfl rfl (wrap_i64 (by omega) (by omega))) rfl hF (fun a hF => ?_)
      refine wl (d_move rfl) rfl hF (fun a hF => ?_)
      refine wl_nil ?_
      have hF := hF.sub (L' := [(1, (Value.int .i64 ((cnt t1 m : Nat) : Int))), (2, (Value.pointer (some ⟨b1, 0, none⟩))), (6, (Value.pointer (some ⟨b2, 0, none⟩))), (10, (Value.slice ad ks.length cap)), (11, (Value.int .i64 (ks.length : Int))), (12, (Value.int .i64 ((i : Int) + 1))), (13, (Value.bool (decide ((i : Int) < (ks.length : Int))))), (17, (Value.bool (decide (5000 < (m : Int)))))]) ⟨rfl, rfl, rfl, rfl, rfl, rfl, rfl, rfl, trivial⟩
      refine then_n ?_
      refine ⟨_, ?_, i + 1, cnt t1 m, rfl, (by omega), (by have := cnt_le t1 m; omega), (by rw [cntL_drop hi (by omega)]; exact hl1_2), (by have := cnt_ge t1 m; omega), hF.sub ⟨rfl, rfl, rfl, rfl, rfl, trivial⟩, ?_⟩
      · omega
      exact hM.sub (by simp)
  · have hlt := of_decide_eq_false h
    clear h
    have hi : i = ks.length := by omega
    have hfin : m = cntL ks (n + 1) := by rw [← hl1_2, hi, List.drop_length]; rfl
    refine wp_exit ?_
    refine then_exit ?_
    refine then_exit ?_
    refine block_exit ?_
    refine then_n ?_
    refine wp_seq ?_
    refine wp_region_lit ?_
    refine wl (d_move rfl) rfl hF (fun a hF => ?_)
    refine wl (d_assign rfl) rfl hF (fun a hF => ?_)
    refine wl_nil ?_
    have hF := hF.sub (L' := [(1, (Value.int .i64 (m : Int))), (2, (Value.pointer (some ⟨b1, 0, none⟩))), (4, (Value.int .i64 (m : Int))), (10, (Value.slice ad ks.length cap)), (11, (Value.int .i64 (ks.length : Int))), (12, (Value.int .i64 (i : Int))), (13, (Value.bool (decide ((i : Int) < (ks.length : Int)))))]) ⟨rfl, rfl, rfl, rfl, rfl, rfl, rfl, trivial⟩
    refine then_n ?_
    refine wp_ret ?_
    refine body_ret hF (results1 Tryd.results93 (RV.tmp hF rfl)) ?_
    exact ⟨by rw [hfin], hM.below⟩
theorem counted_calls (t : Tm) : ∀ (X : List Nat) (vs : List Value) (n : Nat) (w : World), IsT w X t vs → n ≤ 5000 → Calls Tryd.prog 93 (List.toArray [.agg vs.toArray, .int .i64 n]) w (Ret fun v w' => v = .int .i64 (cnt t n) ∧ Gr w w') := by
  refine Tm.ind (p := fun t => ∀ (X : List Nat) (vs : List Value) (n : Nat) (w : World), IsT w X t vs → n ≤ 5000 → Calls Tryd.prog 93 (List.toArray [.agg vs.toArray, .int .i64 n]) w (Ret fun v w' => v = .int .i64 (cnt t n) ∧ Gr w w')) ?_ t
  intro k nm ks ih X vs n w ht hn
  simp only [IsT] at ht
  obtain ⟨sl, xs, rfl, h1, h2⟩ := ht
  obtain ⟨ad, cap, rfl, h3⟩ := h1.form
  exact counted_step ih n hn w h3 h2
end Go.Mi.Term
