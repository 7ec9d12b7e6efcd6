/- Walks: what the laws' own functions return. -/
import Derived.Test.YtoefhjabaanokaaDoorV5
import Derived.Test.YtoefhjabaanokaaDoorB8
set_option linter.unusedSimpArgs false
set_option linter.unusedVariables false
set_option linter.unnecessarySimpa false
namespace Go.Mi.Term
open Go.Mi Go.Proofs Go.RowKit
set_option linter.unusedVariables false
set_option maxRecDepth 100000 in
set_option maxHeartbeats 4000000 in
theorem rcount_step {k nm : Int} {ks : List Tm} (ih : ∀ t, t ∈ ks → ∀ (vs : List Value) (n : Nat) (w : World), IsT w [] t vs → n ≤ 5000 → Calls Tryd.prog 84 (List.toArray [.agg vs.toArray, .int .i64 n]) w (Ret fun v w' => v = .int .i64 (cnt t n) ∧ Gr w w')) {ad : Option Addr} {cap : Nat} {xs : List Value} (n : Nat) (hn : n ≤ 5000) (w0 : World) (hsl : 0 < ks.length → ∃ b o, ad = some ⟨b, o, none⟩ ∧ At w0 b o xs) (hks : IsTs w0 [] ks xs) : Calls Tryd.prog 84 (List.toArray [.agg #[.int .i64 k, .int .i64 nm, .slice ad ks.length cap], .int .i64 n]) w0 (Ret fun v w' => v = .int .i64 (cntL ks (n + 1)) ∧ Gr w0 w') := by
  refine calls_of Tryd.func84 rfl Tryd.ntmps84 rfl fun ac hF => ?_
  have hC : Ch [] w0 w0 := Ch.refl _ _
  have hF := hF.sub (L' := [(0, (Value.agg #[(Value.int .i64 k), (Value.int .i64 nm), (Value.slice ad ks.length cap)])), (1, (Value.int .i64 (n : Int)))]) ⟨rfl, rfl, trivial⟩
  refine wp_seq ?_
  refine wp_region_lit ?_
  refine wlR (ok_box rfl) rfl hF ?_
  rintro _ w ac ⟨b1, rfl, hnb_⟩ hF
  have hch_ : Ch [] _ w := hnb_.ch
  have lo_ := hnb_.lo hC.size
  have hC := hC.trans' hch_ (fun z hz => .inr (absurd hz (by simp)))
  have hib1 : b1 < w.heap.size := hnb_.lt
  have lob1 : w0.heap.size ≤ b1 := lo_
  have hb1 : At w b1 0 [(Value.int .i64 k), (Value.int .i64 nm), (Value.slice ad ks.length cap)] := hnb_.at
  refine wl (d_assign rfl) rfl hF (fun ac hF => ?_)
  refine wl_nil ?_
  have hF := hF.sub (L' := [(0, (Value.agg #[(Value.int .i64 k), (Value.int .i64 nm), (Value.slice ad ks.length cap)])), (1, (Value.int .i64 (n : Int))), (2, (Value.pointer (some ⟨b1, 0, none⟩))), (4, (Value.int .i64 0))]) ⟨rfl, rfl, rfl, rfl, trivial⟩
  refine then_n ?_
  refine wp_seq ?_
  refine wp_region_lit ?_
  refine wl (d_move rfl) rfl hF (fun ac hF => ?_)
  refine wl (d_add rfl rfl (wrap_i64 (by omega) (by omega))) rfl hF (fun ac hF => ?_)
  refine wl (d_assign rfl) rfl hF (fun ac hF => ?_)
  refine wl_nil ?_
  have hF := hF.sub (L' := [(0, (Value.agg #[(Value.int .i64 k), (Value.int .i64 nm), (Value.slice ad ks.length cap)])), (1, (Value.int .i64 ((n + 1 : Nat) : Int))), (2, (Value.pointer (some ⟨b1, 0, none⟩))), (4, (Value.int .i64 0))]) ⟨rfl, rfl, rfl, rfl, trivial⟩
  refine then_n ?_
  refine wp_seq ?_
  refine wp_seq ?_
  refine wp_region_lit ?_
  refine wl (d_assign rfl) rfl hF (fun ac hF => ?_)
  refine wl_nil ?_
  have hF := hF.sub (L' := [(0, (Value.agg #[(Value.int .i64 k), (Value.int .i64 nm), (Value.slice ad ks.length cap)])), (1, (Value.int .i64 ((n + 1 : Nat) : Int))), (2, (Value.pointer (some ⟨b1, 0, none⟩))), (4, (Value.int .i64 0)), (5, (Value.int .i64 0))]) ⟨rfl, rfl, rfl, rfl, rfl, trivial⟩
  refine then_n ?_
  refine wp_block ?_
  refine wp_loop_k (fun fu_ ac w => ∃ (i m : Nat), fu_ = ks.length - i ∧ (i ≤ ks.length) ∧ (m ≤ 5001) ∧ (cntL (ks.drop i) m = cntL ks (n + 1)) ∧ (i ≤ m) ∧ Frm ac 28 [(1, (Value.int .i64 (m : Int))), (2, (Value.pointer (some ⟨b1, 0, none⟩))), (5, (Value.int .i64 (i : Int)))] ∧ (Ch [] w0 w) ∧ (b1 < w.heap.size) ∧ (w0.heap.size ≤ b1) ∧ (At w b1 0 [(Value.int .i64 k), (Value.int .i64 nm), (Value.slice ad ks.length cap)]) ∧ True) _ ⟨0, n + 1, rfl, (by omega), (by omega), rfl, (by omega), hF.sub ⟨rfl, rfl, rfl, trivial⟩, ⟨hC, hib1, lob1, hb1, trivial⟩⟩ ?_
  rintro _ ac w ⟨i, m, rfl, hle, hm, hcn, him, hF, ⟨hC, hib1, lob1, hb1, _⟩⟩
  refine wp_seq ?_
  refine wp_seq ?_
  refine wp_region_lit ?_
  refine wl (d_move rfl) rfl hF (fun ac hF => ?_)
  refine wl (d_fieldAddrQ Tryd.underlying26 (m := 0) sz24 rfl rfl rfl) rfl hF (fun ac hF => ?_)
  refine wl (d_load1 Tryd.underlying24 rfl rfl (hb1 2 _ rfl)) rfl hF (fun ac hF => ?_)
  refine wl (d_len_slice Tryd.underlying24 rfl) rfl hF (fun ac hF => ?_)
  by_cases hlt : (i : Int) < (ks.length : Int)
  · have hdec_ : decide ((i : Int) < (ks.length : Int)) = true := decide_eq_true hlt
    have hdec_hlt := hdec_
    refine wl (d_bool (c := true) (d_lss rfl rfl) (hdec_hlt)) rfl hF (fun ac hF => ?_)
    refine wl (d_move rfl) rfl hF (fun ac hF => ?_)
    refine wlg rfl (d_move rfl) rfl hF (fun ac hF => ?_)
    by_cases hm5 : (m : Int) ≤ 5000
    · have hdec_ : decide ((m : Int) ≤ 5000) = true := decide_eq_true hm5
      have hdec_hm5 := hdec_
      obtain ⟨b0, o0, hae, hat0⟩ := hsl (by omega)
      obtain ⟨t1, hi⟩ : ∃ t, ks[i]? = some t := ⟨_, List.getElem?_eq_getElem (by omega)⟩
      have hmem : t1 ∈ ks := List.mem_of_getElem? hi
      obtain ⟨a1, ha1, hat1⟩ := hks.at hat0 i t1 hi
      obtain ⟨k1_, nm1, ad1, l1, cap1, rfl⟩ := ha1.form
      refine wlg rfl (d_bool (c := true) (d_leq rfl rfl) (hdec_hm5)) rfl hF (fun ac hF => ?_)
      refine wl (d_pick (b := true) rfl rfl) rfl hF (fun ac hF => ?_)
      refine wl_nil ?_
      have hF := hF.sub (L' := [(1, (Value.int .i64 (m : Int))), (2, (Value.pointer (some ⟨b1, 0, none⟩))), (5, (Value.int .i64 (i : Int))), (16, (Value.bool true))]) ⟨rfl, rfl, rfl, rfl, trivial⟩
      refine then_n ?_
      refine wp_cond_true (hF.eval rfl) ?_
      refine wp_skip ?_
      refine then_n ?_
      refine wp_seq ?_
      refine wp_block ?_
      refine wp_region_lit ?_
      refine wl (d_fieldAddrQ Tryd.underlying26 (m := 0) sz24 rfl rfl rfl) rfl hF (fun ac hF => ?_)
      refine wl (d_load1 Tryd.underlying24 rfl rfl (hb1 2 _ rfl)) rfl hF (fun ac hF => ?_)
      refine wl (d_move rfl) rfl hF (fun ac hF => ?_)
      refine wl (d_ixSmQ (b := b0) (o := o0) (j := i) (q := o0 + i * 3) Tryd.underlying24 sz26 (by rw [← hae]; rfl) rfl rfl (by omega) rfl) rfl hF (fun ac hF => ?_)
      refine wl (d_loadC Tryd.underlying26 rfl sz26 rfl (hat1.mv hC (by simp)) rfl) rfl hF (fun ac hF => ?_)
      refine wl (d_move rfl) rfl hF (fun ac hF => ?_)
      refine wlR (ok_call c84 rfl (ih t1 hmem _ m _ (IsT.mv hC (by simp) (fun x hx => .inl hx) _ _ ha1) (by omega))) rfl hF ?_
      rintro _ w ac ⟨rfl, hg_⟩ hF
      have hch_ : Ch [] _ w := Gr.ch hg_
      have hC := hC.trans' hch_ (fun z hz => .inr (absurd hz (by simp)))
      have hib1 := Nat.lt_of_lt_of_le hib1 (hch_).size
      have hb1 := hb1.mv hch_ (by first | assumption | (simp; done) | (simp <;> omega))
      refine wl (d_assign rfl) rfl hF (fun ac hF => ?_)
      refine wl_nil ?_
      have hF := hF.sub (L' := [(1, (Value.int .i64 ((cnt t1 m : Nat) : Int))), (2, (Value.pointer (some ⟨b1, 0, none⟩))), (5, (Value.int .i64 (i : Int))), (16, (Value.bool true))]) ⟨rfl, rfl, rfl, rfl, trivial⟩
      refine block_n ?_
      refine then_n ?_
      refine wp_region_lit ?_
      refine wl (d_move rfl) rfl hF (fun ac hF => ?_)
      refine wl (d_add rfl rfl (wrap_i64 (by omega) (by omega))) rfl hF (fun ac hF => ?_)
      refine wl (d_assign rfl) rfl hF (fun ac hF => ?_)
      refine wl_nil ?_
      have hF := hF.sub (L' := [(1, (Value.int .i64 ((cnt t1 m : Nat) : Int))), (2, (Value.pointer (some ⟨b1, 0, none⟩))), (5, (Value.int .i64 ((i : Int) + 1))), (16, (Value.bool true))]) ⟨rfl, rfl, rfl, rfl, trivial⟩
      refine then_n ?_
      refine ⟨_, ?_, i + 1, cnt t1 m, rfl, (by omega), (by have := cnt_le t1 m; omega), (by rw [cntL_drop hi (by omega)]; exact hcn), (by have := cnt_ge t1 m; omega), hF.sub ⟨rfl, rfl, rfl, trivial⟩, ⟨hC, hib1, lob1, hb1, trivial⟩⟩
      omega
    · have hdec_ : decide ((m : Int) ≤ 5000) = false := decide_eq_false hm5
      have hdec_hm5 := hdec_
      have hfin : m = cntL ks (n + 1) := by rw [← hcn, cntL_big (by omega)]
      refine wlg rfl (d_bool (c := false) (d_leq rfl rfl) (hdec_hm5)) rfl hF (fun ac hF => ?_)
      refine wl (d_pick (b := true) rfl rfl) rfl hF (fun ac hF => ?_)
      refine wl_nil ?_
      have hF := hF.sub (L' := [(1, (Value.int .i64 (m : Int))), (2, (Value.pointer (some ⟨b1, 0, none⟩))), (5, (Value.int .i64 (i : Int))), (16, (Value.bool false))]) ⟨rfl, rfl, rfl, rfl, trivial⟩
      refine then_n ?_
      refine wp_cond_false (hF.eval rfl) ?_
      refine wp_exit ?_
      refine then_exit ?_
      refine then_exit ?_
      refine block_exit ?_
      refine then_n ?_
      refine wp_seq ?_
      refine wp_region_lit ?_
      refine wl (d_move rfl) rfl hF (fun ac hF => ?_)
      refine wl (d_min (r := (m : Int)) rfl rfl (by split <;> omega)) rfl hF (fun ac hF => ?_)
      refine wl (d_assign rfl) rfl hF (fun ac hF => ?_)
      refine wl_nil ?_
      have hF := hF.sub (L' := [(1, (Value.int .i64 (m : Int))), (2, (Value.pointer (some ⟨b1, 0, none⟩))), (4, (Value.int .i64 (m : Int))), (5, (Value.int .i64 (i : Int))), (16, (Value.bool false))]) ⟨rfl, rfl, rfl, rfl, rfl, trivial⟩
      refine then_n ?_
      refine wp_ret ?_
      refine body_ret hF (results1 Tryd.results84 (RV.tmp hF rfl)) ?_
      exact ⟨by rw [hfin], hC.gr⟩
  · have hdec_ : decide ((i : Int) < (ks.length : Int)) = false := decide_eq_false hlt
    have hdec_hlt := hdec_
    have hie : i = ks.length := by omega
    have hfin : m = cntL ks (n + 1) := by rw [← hcn, hie, List.drop_length]; rfl
    refine wl (d_bool (c := false) (d_lss rfl rfl) (hdec_hlt)) rfl hF (fun ac hF => ?_)
    refine wl (d_move rfl) rfl hF (fun ac hF => ?_)
    refine wlgs (c := false) rfl rfl rfl hF (fun ac hF => ?_)
    refine wlgs (c := false) rfl rfl rfl hF (fun ac hF => ?_)
    refine wl (d_pick (b := false) rfl rfl) rfl hF (fun ac hF => ?_)
    refine wl_nil ?_
    have hF := hF.sub (L' := [(1, (Value.int .i64 (m : Int))), (2, (Value.pointer (some ⟨b1, 0, none⟩))), (5, (Value.int .i64 (i : Int))), (16, (Value.bool false))]) ⟨rfl, rfl, rfl, rfl, trivial⟩
    refine then_n ?_
    refine wp_cond_false (hF.eval rfl) ?_
    refine wp_exit ?_
    refine then_exit ?_
    refine then_exit ?_
    refine block_exit ?_
    refine then_n ?_
    refine wp_seq ?_
    refine wp_region_lit ?_
    refine wl (d_move rfl) rfl hF (fun ac hF => ?_)
    refine wl (d_min (r := (m : Int)) rfl rfl (by split <;> omega)) rfl hF (fun ac hF => ?_)
    refine wl (d_assign rfl) rfl hF (fun ac hF => ?_)
    refine wl_nil ?_
    have hF := hF.sub (L' := [(1, (Value.int .i64 (m : Int))), (2, (Value.pointer (some ⟨b1, 0, none⟩))), (4, (Value.int .i64 (m : Int))), (5, (Value.int .i64 (i : Int))), (16, (Value.bool false))]) ⟨rfl, rfl, rfl, rfl, rfl, trivial⟩
    refine then_n ?_
    refine wp_ret ?_
    refine body_ret hF (results1 Tryd.results84 (RV.tmp hF rfl)) ?_
    exact ⟨by rw [hfin], hC.gr⟩

theorem rcount_calls (t : Tm) : ∀ (vs : List Value) (n : Nat) (w : World), IsT w [] t vs → n ≤ 5000 → Calls Tryd.prog 84 (List.toArray [.agg vs.toArray, .int .i64 n]) w (Ret fun v w' => v = .int .i64 (cnt t n) ∧ Gr w w') := by
  refine Tm.ind (p := fun t => ∀ (vs : List Value) (n : Nat) (w : World), IsT w [] t vs → n ≤ 5000 → Calls Tryd.prog 84 (List.toArray [.agg vs.toArray, .int .i64 n]) w (Ret fun v w' => v = .int .i64 (cnt t n) ∧ Gr w w')) ?_ t
  intro k nm ks ih vs n w ht hn
  simp only [IsT] at ht
  obtain ⟨sl, xs, rfl, h1, h2⟩ := ht
  obtain ⟨ad, cap, rfl, h3⟩ := h1.form
  exact rcount_step ih n hn w (fun h => by obtain ⟨b, o, e, _, h4⟩ := h3 h; exact ⟨b, o, e, h4⟩) h2

theorem cnt_size (t : Tm) : cnt t 0 = size t := by have := cnt_le t 0; unfold size; omega

set_option maxRecDepth 100000 in
set_option maxHeartbeats 4000000 in
theorem RCount_calls {t : Tm} {k nm : Int} {ad : Option Addr} {l cap : Nat} (w0 : World) (ht : IsT w0 [] t [.int .i64 k, .int .i64 nm, .slice ad l cap]) : Calls Tryd.prog 47 (List.toArray [.agg #[.int .i64 k, .int .i64 nm, .slice ad l cap]]) w0 (Ret fun v w' => v = .int .i64 (size t) ∧ Gr w0 w') := by
  refine calls_of Tryd.func47 rfl Tryd.ntmps47 rfl fun ac hF => ?_
  have hC : Ch [] w0 w0 := Ch.refl _ _
  have hF := hF.sub (L' := [(0, (Value.agg #[(Value.int .i64 k), (Value.int .i64 nm), (Value.slice ad l cap)]))]) ⟨rfl, trivial⟩
  refine wp_seq ?_
  refine wp_region_lit ?_
  refine wlR (ok_box rfl) rfl hF ?_
  rintro _ w ac ⟨b1, rfl, hnb_⟩ hF
  have hch_ : Ch [] _ w := hnb_.ch
  have lo_ := hnb_.lo hC.size
  have hC := hC.trans' hch_ (fun z hz => .inr (absurd hz (by simp)))
  have hib1 : b1 < w.heap.size := hnb_.lt
  have lob1 : w0.heap.size ≤ b1 := lo_
  have hb1 : At w b1 0 [(Value.int .i64 k), (Value.int .i64 nm), (Value.slice ad l cap)] := hnb_.at
  refine wl (d_assign rfl) rfl hF (fun ac hF => ?_)
  refine wl_nil ?_
  have hF := hF.sub (L' := [(0, (Value.agg #[(Value.int .i64 k), (Value.int .i64 nm), (Value.slice ad l cap)])), (1, (Value.pointer (some ⟨b1, 0, none⟩))), (2, (Value.int .i64 0))]) ⟨rfl, rfl, rfl, trivial⟩
  refine then_n ?_
  refine wp_seq ?_
  refine wp_region_lit ?_
  refine wl (d_loadC Tryd.underlying26 rfl sz26 rfl (hb1) rfl) rfl hF (fun ac hF => ?_)
  refine wlR (ok_call c84 rfl (rcount_calls t _ 0 _ (IsT.mv hC (by simp) (fun x hx => .inl hx) _ _ ht) (by omega))) rfl hF ?_
  rintro _ w ac ⟨rfl, hg_⟩ hF
  have hch_ : Ch [] _ w := Gr.ch hg_
  have hC := hC.trans' hch_ (fun z hz => .inr (absurd hz (by simp)))
  have hib1 := Nat.lt_of_lt_of_le hib1 (hch_).size
  have hb1 := hb1.mv hch_ (by first | assumption | (simp; done) | (simp <;> omega))
  refine wl (d_assign rfl) rfl hF (fun ac hF => ?_)
  refine wl_nil ?_
  have hF := hF.sub (L' := [(0, (Value.agg #[(Value.int .i64 k), (Value.int .i64 nm), (Value.slice ad l cap)])), (1, (Value.pointer (some ⟨b1, 0, none⟩))), (2, (Value.int .i64 ((cnt t 0 : Nat) : Int)))]) ⟨rfl, rfl, rfl, trivial⟩
  refine then_n ?_
  refine wp_ret ?_
  refine body_ret hF (results1 Tryd.results47 (RV.tmp hF rfl)) ?_
  exact ⟨by rw [cnt_size], hC.gr⟩

set_option maxRecDepth 100000 in
set_option maxHeartbeats 4000000 in
theorem Sum_calls {n x bx cx : Nat} (hn : n ≤ 1000000) (hx0 : x ≤ 1000000) (w0 : World) (hx : At w0 bx 0 [.int .i64 x]) : Calls Tryd.prog 48 (List.toArray [.int .i64 n, .slice (some ⟨bx, 0, none⟩) 1 cx]) w0 (Ret fun v w' => v = .int .i64 ((n + x : Nat) : Int) ∧ Gr w0 w') := by
  refine calls_of Tryd.func48 rfl Tryd.ntmps48 rfl fun ac hF => ?_
  have hC : Ch [] w0 w0 := Ch.refl _ _
  have hF := hF.sub (L' := [(0, (Value.int .i64 (n : Int))), (1, (Value.slice (some ⟨bx, 0, none⟩) 1 cx))]) ⟨rfl, rfl, trivial⟩
  refine wp_seq ?_
  refine wp_region_lit ?_
  refine wl (d_assign rfl) rfl hF (fun ac hF => ?_)
  refine wl_nil ?_
  have hF := hF.sub (L' := [(0, (Value.int .i64 (n : Int))), (1, (Value.slice (some ⟨bx, 0, none⟩) 1 cx)), (4, (Value.int .i64 0))]) ⟨rfl, rfl, rfl, trivial⟩
  refine then_n ?_
  refine wp_seq ?_
  refine wp_seq ?_
  refine wp_region_lit ?_
  refine wl (d_assign rfl) rfl hF (fun ac hF => ?_)
  refine wl_nil ?_
  have hF := hF.sub (L' := [(0, (Value.int .i64 (n : Int))), (1, (Value.slice (some ⟨bx, 0, none⟩) 1 cx)), (4, (Value.int .i64 0)), (5, (Value.int .i64 0))]) ⟨rfl, rfl, rfl, rfl, trivial⟩
  refine then_n ?_
  refine wp_block ?_
  refine wp_loop_k (fun fu_ ac w => ∃ (i m : Nat), fu_ = 1 - i ∧ ((i = 0 ∧ m = n) ∨ (i = 1 ∧ m = n + x)) ∧ Frm ac 30 [(0, (Value.int .i64 (m : Int))), (1, (Value.slice (some ⟨bx, 0, none⟩) 1 cx)), (5, (Value.int .i64 (i : Int)))] ∧ (Ch [] w0 w) ∧ True) _ ⟨0, n, rfl, (.inl ⟨rfl, rfl⟩), hF.sub ⟨rfl, rfl, rfl, trivial⟩, ⟨hC, trivial⟩⟩ ?_
  rintro _ ac w ⟨i, m, rfl, him, hF, ⟨hC, _⟩⟩
  refine wp_seq ?_
  refine wp_seq ?_
  refine wp_region_lit ?_
  refine wl (d_move rfl) rfl hF (fun ac hF => ?_)
  refine wl (d_move rfl) rfl hF (fun ac hF => ?_)
  refine wl (d_len_slice Tryd.underlying22 rfl) rfl hF (fun ac hF => ?_)
  refine wl (d_lss rfl rfl) rfl hF (fun ac hF => ?_)
  refine wl_nil ?_
  have hF := hF.sub (L' := [(0, (Value.int .i64 (m : Int))), (1, (Value.slice (some ⟨bx, 0, none⟩) 1 cx)), (5, (Value.int .i64 (i : Int))), (9, (Value.bool (decide ((i : Int) < 1))))]) ⟨rfl, rfl, rfl, rfl, trivial⟩
  refine then_n ?_
  refine wp_if hF rfl (fun h => ?_) (fun h => ?_)
  · have hlt := of_decide_eq_true h
    clear h
    obtain ⟨rfl, rfl⟩ : 0 = i ∧ n = m := by rcases him with h | h <;> omega
    refine wp_skip ?_
    refine then_n ?_
    refine wp_seq ?_
    refine wp_block ?_
    refine wp_seq ?_
    refine wp_seq ?_
    refine wp_region_lit ?_
    refine wl (d_move rfl) rfl hF (fun ac hF => ?_)
    by_cases hb1 : 1099511627776 < (n : Int)
    · have hdec_ : decide (1099511627776 < (n : Int)) = true := decide_eq_true hb1
      have hdec_hb1 := hdec_
      omega
    · have hdec_ : decide (1099511627776 < (n : Int)) = false := decide_eq_false hb1
      have hdec_hb1 := hdec_
      refine wl (d_bool (c := false) (d_gtr rfl rfl) (hdec_hb1)) rfl hF (fun ac hF => ?_)
      refine wl (d_move rfl) rfl hF (fun ac hF => ?_)
      refine wlg rfl (d_move rfl) rfl hF (fun ac hF => ?_)
      refine wlg rfl (d_move rfl) rfl hF (fun ac hF => ?_)
      refine wlg rfl (d_ixSQ (b := bx) (o := 0) (j := 0) (q := 0) Tryd.underlying22 sz3 rfl rfl rfl (by omega) rfl) rfl hF (fun ac hF => ?_)
      refine wlg rfl (d_load1 Tryd.underlying3 rfl rfl ((hx.mv hC (by simp)) 0 _ rfl)) rfl hF (fun ac hF => ?_)
      refine wlg rfl (d_move rfl) rfl hF (fun ac hF => ?_)
      refine wlg rfl (d_sub rfl rfl (wrap_i64 (by omega) (by omega))) rfl hF (fun ac hF => ?_)
      by_cases hb2 : (1099511627776 - (n : Int)) < (x : Int)
      · have hdec_ : decide ((1099511627776 - (n : Int)) < (x : Int)) = true := decide_eq_true hb2
        have hdec_hb2 := hdec_
        omega
      · have hdec_ : decide ((1099511627776 - (n : Int)) < (x : Int)) = false := decide_eq_false hb2
        have hdec_hb2 := hdec_
        refine wlg rfl (d_bool (c := false) (d_gtr rfl rfl) (hdec_hb2)) rfl hF (fun ac hF => ?_)
        refine wl (d_pick (b := false) rfl rfl) rfl hF (fun ac hF => ?_)
        refine wl_nil ?_
        have hF := hF.sub (L' := [(0, (Value.int .i64 (n : Int))), (1, (Value.slice (some ⟨bx, 0, none⟩) 1 cx)), (5, (Value.int .i64 (0 : Int))), (9, (Value.bool (decide ((0 : Int) < 1)))), (22, (Value.bool false))]) ⟨rfl, rfl, rfl, rfl, rfl, trivial⟩
        refine then_n ?_
        refine wp_cond_false (hF.eval rfl) ?_
        refine wp_skip ?_
        refine then_n ?_
        refine wp_region_lit ?_
        refine wl (d_move rfl) rfl hF (fun ac hF => ?_)
        refine wl (d_move rfl) rfl hF (fun ac hF => ?_)
        refine wl (d_move rfl) rfl hF (fun ac hF => ?_)
        refine wl (d_ixSQ (b := bx) (o := 0) (j := 0) (q := 0) Tryd.underlying22 sz3 rfl rfl rfl (by omega) rfl) rfl hF (fun ac hF => ?_)
        refine wl (d_load1 Tryd.underlying3 rfl rfl ((hx.mv hC (by simp)) 0 _ rfl)) rfl hF (fun ac hF => ?_)
        refine wl (d_add rfl rfl (wrap_i64 (by omega) (by omega))) rfl hF (fun ac hF => ?_)
        refine wl (d_assign rfl) rfl hF (fun ac hF => ?_)
        refine wl_nil ?_
        have hF := hF.sub (L' := [(0, (Value.int .i64 ((n + x : Nat) : Int))), (1, (Value.slice (some ⟨bx, 0, none⟩) 1 cx)), (5, (Value.int .i64 (0 : Int))), (9, (Value.bool (decide ((0 : Int) < 1)))), (22, (Value.bool false))]) ⟨rfl, rfl, rfl, rfl, rfl, trivial⟩
        refine block_n ?_
        refine then_n ?_
        refine wp_region_lit ?_
        refine wl (d_move rfl) rfl hF (fun ac hF => ?_)
        refine wl (d_add rfl rfl (wrap_i64 (by omega) (by omega))) rfl hF (fun ac hF => ?_)
        refine wl (d_assign rfl) rfl hF (fun ac hF => ?_)
        refine wl_nil ?_
        have hF := hF.sub (L' := [(0, (Value.int .i64 ((n + x : Nat) : Int))), (1, (Value.slice (some ⟨bx, 0, none⟩) 1 cx)), (5, (Value.int .i64 ((0 : Int) + 1))), (9, (Value.bool (decide ((0 : Int) < 1)))), (22, (Value.bool false))]) ⟨rfl, rfl, rfl, rfl, rfl, trivial⟩
        refine then_n ?_
        refine ⟨_, ?_, 1, n + x, rfl, (.inr ⟨rfl, rfl⟩), hF.sub ⟨rfl, rfl, rfl, trivial⟩, ⟨hC, trivial⟩⟩
        omega
  · have hlt := of_decide_eq_false h
    clear h
    have hfin : m = n + x := by rcases him with h | h <;> omega
    refine wp_exit ?_
    refine then_exit ?_
    refine then_exit ?_
    refine block_exit ?_
    refine then_n ?_
    refine wp_seq ?_
    refine wp_region_lit ?_
    refine wl (d_move rfl) rfl hF (fun ac hF => ?_)
    refine wl (d_assign rfl) rfl hF (fun ac hF => ?_)
    refine wl_nil ?_
    have hF := hF.sub (L' := [(0, (Value.int .i64 (m : Int))), (1, (Value.slice (some ⟨bx, 0, none⟩) 1 cx)), (4, (Value.int .i64 (m : Int))), (5, (Value.int .i64 (i : Int))), (9, (Value.bool (decide ((i : Int) < 1))))]) ⟨rfl, rfl, rfl, rfl, rfl, trivial⟩
    refine then_n ?_
    refine wp_ret ?_
    refine body_ret hF (results1 Tryd.results48 (RV.tmp hF rfl)) ?_
    exact ⟨by rw [hfin], hC.gr⟩

def smN : List Tm → Nat → Nat
  | [], n => n
  | t :: ts, n => if n ≤ 150 then smN ts (n + size t) else n
def smallB (l : List Tm) (t : Tm) : Bool := decide (smN l (size t) ≤ 150) && decide (l.length ≤ 25)
theorem smN_big {l : List Tm} {n : Nat} (h : ¬ n ≤ 150) : smN l n = n := by
  cases l with
  | nil => rfl
  | cons t l => simp only [smN, if_neg h]
theorem smN_drop {ks : List Tm} {i m : Nat} {t : Tm} (h : ks[i]? = some t) (hm : m ≤ 150) : smN (ks.drop i) m = smN (ks.drop (i + 1)) (m + size t) := by
  have hl : i < ks.length := by
    rcases Nat.lt_or_ge i ks.length with h' | h'
    · exact h'
    · simp [List.getElem?_eq_none h'] at h
  have ht : ks[i] = t := by simpa [List.getElem?_eq_getElem hl] using h
  rw [List.drop_eq_getElem_cons hl, ht]
  simp only [smN, if_pos hm]
theorem size_le (t : Tm) : size t ≤ 5001 := by unfold size; omega
theorem small_yes {l : List Tm} {t : Tm} {m : Nat} (h : m = smN l (size t)) (hm : (m : Int) ≤ 150) : decide ((l.length : Int) ≤ 25) = smallB l t := by
  unfold smallB
  rw [← h, decide_eq_true (show m ≤ 150 by omega), Bool.true_and]
  exact decide_eq_decide.2 (by omega)
theorem small_no {l : List Tm} {t : Tm} {m : Nat} (h : m = smN l (size t)) (hm : ¬ (m : Int) ≤ 150) : false = smallB l t := by
  unfold smallB
  rw [← h, decide_eq_false (show ¬ m ≤ 150 by omega), Bool.false_and]

set_option maxRecDepth 100000 in
set_option maxHeartbeats 4000000 in
theorem small_calls {ks : List Tm} {t : Tm} {k nm : Int} {ad ad0 : Option Addr} {l cap cap0 : Nat} {xs : List Value} (hl63 : ks.length ≤ 9000000000000000000) (w0 : World) (hsl : 0 < ks.length → ∃ b o, ad0 = some ⟨b, o, none⟩ ∧ At w0 b o xs) (hks : IsTs w0 [] ks xs) (ht : IsT w0 [] t [.int .i64 k, .int .i64 nm, .slice ad l cap]) : Calls Tryd.prog 21 (List.toArray [.slice ad0 ks.length cap0, .agg #[.int .i64 k, .int .i64 nm, .slice ad l cap]]) w0 (Ret fun v w' => v = .bool (smallB ks t) ∧ Gr w0 w') := by
  refine calls_of Tryd.func21 rfl Tryd.ntmps21 rfl fun ac hF => ?_
  have hC : Ch [] w0 w0 := Ch.refl _ _
  have hF := hF.sub (L' := [(0, (Value.slice ad0 ks.length cap0)), (1, (Value.agg #[(Value.int .i64 k), (Value.int .i64 nm), (Value.slice ad l cap)]))]) ⟨rfl, rfl, trivial⟩
  refine wp_seq ?_
  refine wp_region_lit ?_
  refine wlR (ok_box rfl) rfl hF ?_
  rintro _ w ac ⟨b1, rfl, hnb_⟩ hF
  have hch_ : Ch [] _ w := hnb_.ch
  have lo_ := hnb_.lo hC.size
  have hC := hC.trans' hch_ (fun z hz => .inr (absurd hz (by simp)))
  have hib1 : b1 < w.heap.size := hnb_.lt
  have lob1 : w0.heap.size ≤ b1 := lo_
  have hb1 : At w b1 0 [(Value.int .i64 k), (Value.int .i64 nm), (Value.slice ad l cap)] := hnb_.at
  refine wl (d_assign rfl) rfl hF (fun ac hF => ?_)
  refine wl_nil ?_
  have hF := hF.sub (L' := [(0, (Value.slice ad0 ks.length cap0)), (1, (Value.agg #[(Value.int .i64 k), (Value.int .i64 nm), (Value.slice ad l cap)])), (3, (Value.pointer (some ⟨b1, 0, none⟩))), (4, (Value.bool false))]) ⟨rfl, rfl, rfl, rfl, trivial⟩
  refine then_n ?_
  refine wp_seq ?_
  refine wp_region_lit ?_
  refine wl (d_loadC Tryd.underlying26 rfl sz26 rfl (hb1) rfl) rfl hF (fun ac hF => ?_)
  refine wlR (ok_call c47 rfl (RCount_calls (t := t) _ (IsT.mv hC (by simp) (fun x hx => .inl hx) _ _ ht))) rfl hF ?_
  rintro _ w ac ⟨rfl, hg_⟩ hF
  have hch_ : Ch [] _ w := Gr.ch hg_
  have hC := hC.trans' hch_ (fun z hz => .inr (absurd hz (by simp)))
  have hib1 := Nat.lt_of_lt_of_le hib1 (hch_).size
  have hb1 := hb1.mv hch_ (by first | assumption | (simp; done) | (simp <;> omega))
  refine wl (d_assign rfl) rfl hF (fun ac hF => ?_)
  refine wl_nil ?_
  have hF := hF.sub (L' := [(0, (Value.slice ad0 ks.length cap0)), (1, (Value.agg #[(Value.int .i64 k), (Value.int .i64 nm), (Value.slice ad l cap)])), (3, (Value.pointer (some ⟨b1, 0, none⟩))), (4, (Value.bool false)), (5, (Value.int .i64 ((size t : Nat) : Int)))]) ⟨rfl, rfl, rfl, rfl, rfl, trivial⟩
  refine then_n ?_
  refine wp_seq ?_
  refine wp_seq ?_
  refine wp_region_lit ?_
  refine wl (d_assign rfl) rfl hF (fun ac hF => ?_)
  refine wl_nil ?_
  have hF := hF.sub (L' := [(0, (Value.slice ad0 ks.length cap0)), (1, (Value.agg #[(Value.int .i64 k), (Value.int .i64 nm), (Value.slice ad l cap)])), (3, (Value.pointer (some ⟨b1, 0, none⟩))), (4, (Value.bool false)), (5, (Value.int .i64 ((size t : Nat) : Int))), (6, (Value.int .i64 0))]) ⟨rfl, rfl, rfl, rfl, rfl, rfl, trivial⟩
  refine then_n ?_
  refine wp_block ?_
  refine wp_loop_k (fun fu_ ac w => ∃ (i m : Nat), fu_ = ks.length - i ∧ (i ≤ ks.length) ∧ (smN (ks.drop i) m = smN ks (size t)) ∧ (m ≤ 5151) ∧ Frm ac 34 [(0, (Value.slice ad0 ks.length cap0)), (5, (Value.int .i64 (m : Int))), (6, (Value.int .i64 (i : Int)))] ∧ (Ch [] w0 w) ∧ (b1 < w.heap.size) ∧ (w0.heap.size ≤ b1) ∧ (At w b1 0 [(Value.int .i64 k), (Value.int .i64 nm), (Value.slice ad l cap)]) ∧ True) _ ⟨0, size t, rfl, (by omega), rfl, (by have := size_le t; omega), hF.sub ⟨rfl, rfl, rfl, trivial⟩, ⟨hC, hib1, lob1, hb1, trivial⟩⟩ ?_
  rintro _ ac w ⟨i, m, rfl, hle, hcn, hmb, hF, ⟨hC, hib1, lob1, hb1, _⟩⟩
  refine wp_seq ?_
  refine wp_seq ?_
  refine wp_region_lit ?_
  refine wl (d_move rfl) rfl hF (fun ac hF => ?_)
  refine wl (d_move rfl) rfl hF (fun ac hF => ?_)
  refine wl (d_len_slice Tryd.underlying24 rfl) rfl hF (fun ac hF => ?_)
  by_cases hlt : (i : Int) < (ks.length : Int)
  · have hdec_ : decide ((i : Int) < (ks.length : Int)) = true := decide_eq_true hlt
    have hdec_hlt := hdec_
    refine wl (d_bool (c := true) (d_lss rfl rfl) (hdec_hlt)) rfl hF (fun ac hF => ?_)
    refine wl (d_move rfl) rfl hF (fun ac hF => ?_)
    refine wlg rfl (d_move rfl) rfl hF (fun ac hF => ?_)
    by_cases hm5 : (m : Int) ≤ 150
    · have hdec_ : decide ((m : Int) ≤ 150) = true := decide_eq_true hm5
      have hdec_hm5 := hdec_
      obtain ⟨b0, o0, hae, hat0⟩ := hsl (by omega)
      obtain ⟨t1, hi⟩ : ∃ t, ks[i]? = some t := ⟨_, List.getElem?_eq_getElem (by omega)⟩
      have hmem : t1 ∈ ks := List.mem_of_getElem? hi
      obtain ⟨a1, ha1, hat1⟩ := hks.at hat0 i t1 hi
      obtain ⟨k1_, nm1, ad1, l1, cap1, rfl⟩ := ha1.form
      refine wlg rfl (d_bool (c := true) (d_leq rfl rfl) (hdec_hm5)) rfl hF (fun ac hF => ?_)
      refine wl (d_pick (b := true) rfl rfl) rfl hF (fun ac hF => ?_)
      refine wl_nil ?_
      have hF := hF.sub (L' := [(0, (Value.slice ad0 ks.length cap0)), (5, (Value.int .i64 (m : Int))), (6, (Value.int .i64 (i : Int))), (16, (Value.bool true))]) ⟨rfl, rfl, rfl, rfl, trivial⟩
      refine then_n ?_
      refine wp_cond_true (hF.eval rfl) ?_
      refine wp_skip ?_
      refine then_n ?_
      refine wp_seq ?_
      refine wp_block ?_
      refine wp_region_lit ?_
      refine wl (d_move rfl) rfl hF (fun ac hF => ?_)
      refine wl (d_move rfl) rfl hF (fun ac hF => ?_)
      refine wl (d_move rfl) rfl hF (fun ac hF => ?_)
      refine wl (d_ixSmQ (b := b0) (o := o0) (j := i) (q := o0 + i * 3) Tryd.underlying24 sz26 (by rw [← hae]; rfl) rfl rfl (by omega) rfl) rfl hF (fun ac hF => ?_)
      refine wl (d_loadC Tryd.underlying26 rfl sz26 rfl (hat1.mv hC (by simp)) rfl) rfl hF (fun ac hF => ?_)
      refine wlR (ok_call c47 rfl (RCount_calls (t := t1) _ (IsT.mv hC (by simp) (fun x hx => .inl hx) _ _ ha1))) rfl hF ?_
      rintro _ w ac ⟨rfl, hg_⟩ hF
      have hch_ : Ch [] _ w := Gr.ch hg_
      have hC := hC.trans' hch_ (fun z hz => .inr (absurd hz (by simp)))
      have hib1 := Nat.lt_of_lt_of_le hib1 (hch_).size
      have hb1 := hb1.mv hch_ (by first | assumption | (simp; done) | (simp <;> omega))
      refine wlR (ok_buildSlice (cells := #[(Value.int .i64 ((size t1 : Nat) : Int))]) Tryd.underlying22 zz3 rfl (by decide) (by decide) (by exact fill1 rfl)) rfl hF ?_
      rintro _ w ac ⟨b2, rfl, hnb_⟩ hF
      have hch_ : Ch [] _ w := hnb_.ch
      have lo_ := hnb_.lo hC.size
      have ne_b1_b2 := hnb_.gt hib1
      have hC := hC.trans' hch_ (fun z hz => .inr (absurd hz (by simp)))
      have hib1 := Nat.lt_of_lt_of_le hib1 (hch_).size
      have hb1 := hb1.mv hch_ (by first | assumption | (simp; done) | (simp <;> omega))
      have hib2 : b2 < w.heap.size := hnb_.lt
      have lob2 : w0.heap.size ≤ b2 := lo_
      have hb2 : At w b2 0 [(Value.int .i64 ((size t1 : Nat) : Int))] := hnb_.at
      have ne_b1_b2 : b1 < b2 := ne_b1_b2
      refine wlR (ok_call c48 rfl (Sum_calls (n := m) (x := size t1) (by omega) (by have := size_le t1; omega) _ hb2)) rfl hF ?_
      rintro _ w ac ⟨rfl, hg_⟩ hF
      have hch_ : Ch [] _ w := Gr.ch hg_
      have hC := hC.trans' hch_ (fun z hz => .inr (absurd hz (by simp)))
      have hib1 := Nat.lt_of_lt_of_le hib1 (hch_).size
      have hb1 := hb1.mv hch_ (by first | assumption | (simp; done) | (simp <;> omega))
      have hib2 := Nat.lt_of_lt_of_le hib2 (hch_).size
      have hb2 := hb2.mv hch_ (by first | assumption | (simp; done) | (simp <;> omega))
      refine wl (d_assign rfl) rfl hF (fun ac hF => ?_)
      refine wl_nil ?_
      have hF := hF.sub (L' := [(0, (Value.slice ad0 ks.length cap0)), (5, (Value.int .i64 ((m + size t1 : Nat) : Int))), (6, (Value.int .i64 (i : Int))), (16, (Value.bool true))]) ⟨rfl, rfl, rfl, rfl, trivial⟩
      refine block_n ?_
      refine then_n ?_
      refine wp_region_lit ?_
      refine wl (d_move rfl) rfl hF (fun ac hF => ?_)
      refine wl (d_add rfl rfl (wrap_i64 (by omega) (by omega))) rfl hF (fun ac hF => ?_)
      refine wl (d_assign rfl) rfl hF (fun ac hF => ?_)
      refine wl_nil ?_
      have hF := hF.sub (L' := [(0, (Value.slice ad0 ks.length cap0)), (5, (Value.int .i64 ((m + size t1 : Nat) : Int))), (6, (Value.int .i64 ((i : Int) + 1))), (16, (Value.bool true))]) ⟨rfl, rfl, rfl, rfl, trivial⟩
      refine then_n ?_
      refine ⟨_, ?_, i + 1, m + size t1, rfl, (by omega), (by rw [← smN_drop hi (by omega)]; exact hcn), (by have := size_le t1; omega), hF.sub ⟨rfl, rfl, rfl, trivial⟩, ⟨hC, hib1, lob1, hb1, trivial⟩⟩
      omega
    · have hdec_ : decide ((m : Int) ≤ 150) = false := decide_eq_false hm5
      have hdec_hm5 := hdec_
      have hfin : m = smN ks (size t) := by rw [← hcn, smN_big (by omega)]
      refine wlg rfl (d_bool (c := false) (d_leq rfl rfl) (hdec_hm5)) rfl hF (fun ac hF => ?_)
      refine wl (d_pick (b := true) rfl rfl) rfl hF (fun ac hF => ?_)
      refine wl_nil ?_
      have hF := hF.sub (L' := [(0, (Value.slice ad0 ks.length cap0)), (5, (Value.int .i64 (m : Int))), (6, (Value.int .i64 (i : Int))), (16, (Value.bool false))]) ⟨rfl, rfl, rfl, rfl, trivial⟩
      refine then_n ?_
      refine wp_cond_false (hF.eval rfl) ?_
      refine wp_exit ?_
      refine then_exit ?_
      refine then_exit ?_
      refine block_exit ?_
      refine then_n ?_
      refine wp_seq ?_
      refine wp_region_lit ?_
      refine wl (d_move rfl) rfl hF (fun ac hF => ?_)
      by_cases hm6 : (m : Int) ≤ 150
      · have hdec_ : decide ((m : Int) ≤ 150) = true := decide_eq_true hm6
        have hdec_hm6 := hdec_
        refine wl (d_bool (c := true) (d_leq rfl rfl) (hdec_hm6)) rfl hF (fun ac hF => ?_)
        refine wl (d_move rfl) rfl hF (fun ac hF => ?_)
        refine wlg rfl (d_move rfl) rfl hF (fun ac hF => ?_)
        refine wlg rfl (d_len_slice Tryd.underlying24 rfl) rfl hF (fun ac hF => ?_)
        refine wlg rfl (d_leq rfl rfl) rfl hF (fun ac hF => ?_)
        refine wl (d_pick (b := true) rfl rfl) rfl hF (fun ac hF => ?_)
        refine wl (d_assign rfl) rfl hF (fun ac hF => ?_)
        refine wl_nil ?_
        have hF := hF.sub (L' := [(0, (Value.slice ad0 ks.length cap0)), (4, (Value.bool (decide ((ks.length : Int) ≤ 25)))), (5, (Value.int .i64 (m : Int))), (6, (Value.int .i64 (i : Int))), (16, (Value.bool false))]) ⟨rfl, rfl, rfl, rfl, rfl, trivial⟩
        refine then_n ?_
        refine wp_ret ?_
        refine body_ret hF (results1 Tryd.results21 (RV.tmp hF rfl)) ?_
        first | exact ⟨by rw [small_yes hfin hm6], hC.gr⟩ | exact ⟨by rw [small_no hfin hm6], hC.gr⟩
      · have hdec_ : decide ((m : Int) ≤ 150) = false := decide_eq_false hm6
        have hdec_hm6 := hdec_
        refine wl (d_bool (c := false) (d_leq rfl rfl) (hdec_hm6)) rfl hF (fun ac hF => ?_)
        refine wl (d_move rfl) rfl hF (fun ac hF => ?_)
        refine wlgs (c := false) rfl rfl rfl hF (fun ac hF => ?_)
        refine wlgs (c := false) rfl rfl rfl hF (fun ac hF => ?_)
        refine wlgs (c := false) rfl rfl rfl hF (fun ac hF => ?_)
        refine wl (d_pick (b := false) rfl rfl) rfl hF (fun ac hF => ?_)
        refine wl (d_assign rfl) rfl hF (fun ac hF => ?_)
        refine wl_nil ?_
        have hF := hF.sub (L' := [(0, (Value.slice ad0 ks.length cap0)), (4, (Value.bool false)), (5, (Value.int .i64 (m : Int))), (6, (Value.int .i64 (i : Int))), (16, (Value.bool false))]) ⟨rfl, rfl, rfl, rfl, rfl, trivial⟩
        refine then_n ?_
        refine wp_ret ?_
        refine body_ret hF (results1 Tryd.results21 (RV.tmp hF rfl)) ?_
        first | exact ⟨by rw [small_yes hfin hm6], hC.gr⟩ | exact ⟨by rw [small_no hfin hm6], hC.gr⟩
  · have hdec_ : decide ((i : Int) < (ks.length : Int)) = false := decide_eq_false hlt
    have hdec_hlt := hdec_
    have hie : i = ks.length := by omega
    have hfin : m = smN ks (size t) := by rw [← hcn, hie, List.drop_length]; rfl
    refine wl (d_bool (c := false) (d_lss rfl rfl) (hdec_hlt)) rfl hF (fun ac hF => ?_)
    refine wl (d_move rfl) rfl hF (fun ac hF => ?_)
    refine wlgs (c := false) rfl rfl rfl hF (fun ac hF => ?_)
    refine wlgs (c := false) rfl rfl rfl hF (fun ac hF => ?_)
    refine wl (d_pick (b := false) rfl rfl) rfl hF (fun ac hF => ?_)
    refine wl_nil ?_
    have hF := hF.sub (L' := [(0, (Value.slice ad0 ks.length cap0)), (5, (Value.int .i64 (m : Int))), (6, (Value.int .i64 (i : Int))), (16, (Value.bool false))]) ⟨rfl, rfl, rfl, rfl, trivial⟩
    refine then_n ?_
    refine wp_cond_false (hF.eval rfl) ?_
    refine wp_exit ?_
    refine then_exit ?_
    refine then_exit ?_
    refine block_exit ?_
    refine then_n ?_
    refine wp_seq ?_
    refine wp_region_lit ?_
    refine wl (d_move rfl) rfl hF (fun ac hF => ?_)
    by_cases hm6 : (m : Int) ≤ 150
    · have hdec_ : decide ((m : Int) ≤ 150) = true := decide_eq_true hm6
      have hdec_hm6 := hdec_
      refine wl (d_bool (c := true) (d_leq rfl rfl) (hdec_hm6)) rfl hF (fun ac hF => ?_)
      refine wl (d_move rfl) rfl hF (fun ac hF => ?_)
      refine wlg rfl (d_move rfl) rfl hF (fun ac hF => ?_)
      refine wlg rfl (d_len_slice Tryd.underlying24 rfl) rfl hF (fun ac hF => ?_)
      refine wlg rfl (d_leq rfl rfl) rfl hF (fun ac hF => ?_)
      refine wl (d_pick (b := true) rfl rfl) rfl hF (fun ac hF => ?_)
      refine wl (d_assign rfl) rfl hF (fun ac hF => ?_)
      refine wl_nil ?_
      have hF := hF.sub (L' := [(0, (Value.slice ad0 ks.length cap0)), (4, (Value.bool (decide ((ks.length : Int) ≤ 25)))), (5, (Value.int .i64 (m : Int))), (6, (Value.int .i64 (i : Int))), (16, (Value.bool false))]) ⟨rfl, rfl, rfl, rfl, rfl, trivial⟩
      refine then_n ?_
      refine wp_ret ?_
      refine body_ret hF (results1 Tryd.results21 (RV.tmp hF rfl)) ?_
      first | exact ⟨by rw [small_yes hfin hm6], hC.gr⟩ | exact ⟨by rw [small_no hfin hm6], hC.gr⟩
    · have hdec_ : decide ((m : Int) ≤ 150) = false := decide_eq_false hm6
      have hdec_hm6 := hdec_
      refine wl (d_bool (c := false) (d_leq rfl rfl) (hdec_hm6)) rfl hF (fun ac hF => ?_)
      refine wl (d_move rfl) rfl hF (fun ac hF => ?_)
      refine wlgs (c := false) rfl rfl rfl hF (fun ac hF => ?_)
      refine wlgs (c := false) rfl rfl rfl hF (fun ac hF => ?_)
      refine wlgs (c := false) rfl rfl rfl hF (fun ac hF => ?_)
      refine wl (d_pick (b := false) rfl rfl) rfl hF (fun ac hF => ?_)
      refine wl (d_assign rfl) rfl hF (fun ac hF => ?_)
      refine wl_nil ?_
      have hF := hF.sub (L' := [(0, (Value.slice ad0 ks.length cap0)), (4, (Value.bool false)), (5, (Value.int .i64 (m : Int))), (6, (Value.int .i64 (i : Int))), (16, (Value.bool false))]) ⟨rfl, rfl, rfl, rfl, rfl, trivial⟩
      refine then_n ?_
      refine wp_ret ?_
      refine body_ret hF (results1 Tryd.results21 (RV.tmp hF rfl)) ?_
      first | exact ⟨by rw [small_yes hfin hm6], hC.gr⟩ | exact ⟨by rw [small_no hfin hm6], hC.gr⟩

def rok (k nm : Int) (l d : Nat) : Bool := decide (d ≤ 100 ∧ ((k = 1 ∧ 0 ≤ nm ∧ nm ≤ 1073741824 ∧ l = 0) ∨ (k = 2 ∧ l = 1) ∨ (k = 6 ∧ 1 ≤ l ∧ l ≤ 8) ∨ ((k = 3 ∨ k = 4 ∨ k = 5 ∨ k = 7 ∨ k = 8 ∨ k = 9) ∧ l = 2)))
mutual
def rsz : Tm → Nat → Nat × Bool
  | .mk k nm ks, d => ((min (rszL ks (d + 1) 1 (rok k nm ks.length d)).1 5001), (rszL ks (d + 1) 1 (rok k nm ks.length d)).2)
def rszL : List Tm → Nat → Nat → Bool → Nat × Bool
  | [], _, n, ok => (n, ok)
  | t :: ts, d, n, ok => if n ≤ 5000 ∧ ok = true then rszL ts d (n + (rsz t d).1) (ok && (rsz t d).2) else (n, ok)
end
theorem rsz_le : (t : Tm) → (d : Nat) → (rsz t d).1 ≤ 5001
  | .mk k nm ks, d => by simp only [rsz]; omega
theorem rszL_cut {l : List Tm} {d n : Nat} {ok : Bool} (h : ¬ (n ≤ 5000 ∧ ok = true)) : rszL l d n ok = (n, ok) := by
  cases l with
  | nil => rfl
  | cons t l => simp only [rszL, if_neg h]
theorem rszL_drop {ks : List Tm} {i m d : Nat} {t : Tm} (h : ks[i]? = some t) (hm : m ≤ 5000) : rszL (ks.drop i) d m true = rszL (ks.drop (i + 1)) d (m + (rsz t d).1) (rsz t d).2 := by
  have hl : i < ks.length := by
    rcases Nat.lt_or_ge i ks.length with h' | h'
    · exact h'
    · simp [List.getElem?_eq_none h'] at h
  have ht : ks[i] = t := by simpa [List.getElem?_eq_getElem hl] using h
  rw [List.drop_eq_getElem_cons hl, ht]
  simp only [rszL]
  rw [if_pos (by exact ⟨hm, trivial⟩), Bool.true_and]
theorem rok_d {k nm : Int} {l d : Nat} (h : rok k nm l d = true) : d ≤ 100 ∧ l ≤ 8 := by have := of_decide_eq_true h; omega

set_option maxRecDepth 100000 in
set_option maxHeartbeats 4000000 in
theorem rsize_step {k nm : Int} {ks : List Tm} (ih : ∀ t, t ∈ ks → ∀ (vs : List Value) (n : Nat) (w : World), IsT w [] t vs → n ≤ 1000 → Calls Tryd.prog 49 (List.toArray [.agg vs.toArray, .int .i64 n]) w (Ret fun v w' => ∃ (m : Nat) (ok : Bool), v = .tuple #[.int .i64 (m : Int), .bool ok] ∧ rsz t n = (m, ok) ∧ Gr w w')) {ad : Option Addr} {cap : Nat} {xs : List Value} (d : Nat) (hd : d ≤ 1000) (w0 : World) (hsl : 0 < ks.length → ∃ b o, ad = some ⟨b, o, none⟩ ∧ At w0 b o xs) (hks : IsTs w0 [] ks xs) : Calls Tryd.prog 49 (List.toArray [.agg #[.int .i64 k, .int .i64 nm, .slice ad ks.length cap], .int .i64 d]) w0 (Ret fun v w' => ∃ (m : Nat) (ok : Bool), v = .tuple #[.int .i64 (m : Int), .bool ok] ∧ rsz (.mk k nm ks) d = (m, ok) ∧ Gr w0 w') := by
  refine calls_of Tryd.func49 rfl Tryd.ntmps49 rfl fun ac hF => ?_
  have hC : Ch [] w0 w0 := Ch.refl _ _
  have hF := hF.sub (L' := [(0, (Value.agg #[(Value.int .i64 k), (Value.int .i64 nm), (Value.slice ad ks.length cap)])), (1, (Value.int .i64 (d : Int)))]) ⟨rfl, rfl, trivial⟩
  refine wp_seq ?_
  refine wp_region_lit ?_
  refine wlR (ok_box rfl) rfl hF ?_
  rintro _ w ac ⟨b1, rfl, hnb_⟩ hF
  have hch_ : Ch [] _ w := hnb_.ch
  have lo_ := hnb_.lo hC.size
  have hC := hC.trans' hch_ (fun z hz => .inr (absurd hz (by simp)))
  have hib1 : b1 < w.heap.size := hnb_.lt
  have lob1 : w0.heap.size ≤ b1 := lo_
  have hb1 : At w b1 0 [(Value.int .i64 k), (Value.int .i64 nm), (Value.slice ad ks.length cap)] := hnb_.at
  refine wl (d_assign rfl) rfl hF (fun ac hF => ?_)
  refine wl (d_assign rfl) rfl hF (fun ac hF => ?_)
  refine wl_nil ?_
  have hF := hF.sub (L' := [(0, (Value.agg #[(Value.int .i64 k), (Value.int .i64 nm), (Value.slice ad ks.length cap)])), (1, (Value.int .i64 (d : Int))), (2, (Value.pointer (some ⟨b1, 0, none⟩))), (4, (Value.int .i64 0)), (5, (Value.bool false))]) ⟨rfl, rfl, rfl, rfl, rfl, trivial⟩
  refine then_n ?_
  refine wp_seq ?_
  refine wp_region_lit ?_
  refine wl (d_move rfl) rfl hF (fun ac hF => ?_)
  refine wl (d_leq rfl rfl) rfl hF (fun ac hF => ?_)
  refine wl (d_assign rfl) rfl hF (fun ac hF => ?_)
  refine wl_nil ?_
  have hF := hF.sub (L' := [(0, (Value.agg #[(Value.int .i64 k), (Value.int .i64 nm), (Value.slice ad ks.length cap)])), (1, (Value.int .i64 (d : Int))), (2, (Value.pointer (some ⟨b1, 0, none⟩))), (4, (Value.int .i64 0)), (5, (Value.bool false)), (6, (Value.bool (decide ((d : Int) ≤ 100))))]) ⟨rfl, rfl, rfl, rfl, rfl, rfl, trivial⟩
  refine then_n ?_
  refine wp_seq ?_
  refine wp_seq ?_
  refine wp_region_lit ?_
  refine wl (d_fieldAddrQ Tryd.underlying26 (m := 0) sz3 rfl rfl rfl) rfl hF (fun ac hF => ?_)
  refine wl (d_load1 Tryd.underlying3 rfl rfl (hb1 0 _ rfl)) rfl hF (fun ac hF => ?_)
  refine wl_nil ?_
  have hF := hF.sub (L' := [(0, (Value.agg #[(Value.int .i64 k), (Value.int .i64 nm), (Value.slice ad ks.length cap)])), (1, (Value.int .i64 (d : Int))), (2, (Value.pointer (some ⟨b1, 0, none⟩))), (4, (Value.int .i64 0)), (5, (Value.bool false)), (6, (Value.bool (decide ((d : Int) ≤ 100)))), (14, (Value.int .i64 k))]) ⟨rfl, rfl, rfl, rfl, rfl, rfl, rfl, trivial⟩
  refine then_n ?_
  refine wp_join (fun ac w => ∃ (ok1 : Bool), Frm ac 107 [(1, (Value.int .i64 (d : Int))), (2, (Value.pointer (some ⟨b1, 0, none⟩))), (4, (Value.int .i64 0)), (5, (Value.bool false)), (6, (Value.bool ok1))] ∧ (ok1 = rok k nm ks.length d) ∧ (Ch [] w0 w) ∧ (b1 < w.heap.size) ∧ (w0.heap.size ≤ b1) ∧ (At w b1 0 [(Value.int .i64 k), (Value.int .i64 nm), (Value.slice ad ks.length cap)]) ∧ True) ?_ ?_
  rotate_left
  · rintro ac w ⟨ok1, hF, hok1, ⟨hC, hib1, lob1, hb1, _⟩⟩
    refine wp_seq ?_
    refine wp_region_lit ?_
    refine wl (d_assign rfl) rfl hF (fun ac hF => ?_)
    refine wl_nil ?_
    have hF := hF.sub (L' := [(1, (Value.int .i64 (d : Int))), (2, (Value.pointer (some ⟨b1, 0, none⟩))), (4, (Value.int .i64 0)), (5, (Value.bool false)), (6, (Value.bool ok1)), (7, (Value.int .i64 1))]) ⟨rfl, rfl, rfl, rfl, rfl, rfl, trivial⟩
    refine then_n ?_
    refine wp_seq ?_
    refine wp_seq ?_
    refine wp_region_lit ?_
    refine wl (d_assign rfl) rfl hF (fun ac hF => ?_)
    refine wl_nil ?_
    have hF := hF.sub (L' := [(1, (Value.int .i64 (d : Int))), (2, (Value.pointer (some ⟨b1, 0, none⟩))), (4, (Value.int .i64 0)), (5, (Value.bool false)), (6, (Value.bool ok1)), (7, (Value.int .i64 1)), (8, (Value.int .i64 0))]) ⟨rfl, rfl, rfl, rfl, rfl, rfl, rfl, trivial⟩
    refine then_n ?_
    refine wp_block ?_
    refine wp_loop_k (fun fu_ ac w => ∃ (i m : Nat) (ok : Bool), fu_ = ks.length - i ∧ (i ≤ ks.length) ∧ (m ≤ 10001) ∧ (rszL (ks.drop i) (d + 1) m ok = rszL ks (d + 1) 1 (rok k nm ks.length d)) ∧ (ok = true → d ≤ 100 ∧ ks.length ≤ 8) ∧ Frm ac 107 [(1, (Value.int .i64 (d : Int))), (2, (Value.pointer (some ⟨b1, 0, none⟩))), (6, (Value.bool ok)), (7, (Value.int .i64 (m : Int))), (8, (Value.int .i64 (i : Int)))] ∧ (Ch [] w0 w) ∧ (b1 < w.heap.size) ∧ (w0.heap.size ≤ b1) ∧ (At w b1 0 [(Value.int .i64 k), (Value.int .i64 nm), (Value.slice ad ks.length cap)]) ∧ True) _ ⟨0, 1, ok1, rfl, (by omega), (by omega), (by rw [hok1]; rfl), (fun h => rok_d (hok1 ▸ h)), hF.sub ⟨rfl, rfl, rfl, rfl, rfl, trivial⟩, ⟨hC, hib1, lob1, hb1, trivial⟩⟩ ?_
    rintro _ ac w ⟨i, m, ok, rfl, hle, hm, hcn, hokd, hF, ⟨hC, hib1, lob1, hb1, _⟩⟩
    refine wp_seq ?_
    refine wp_seq ?_
    refine wp_region_lit ?_
    refine wl (d_move rfl) rfl hF (fun ac hF => ?_)
    refine wl (d_fieldAddrQ Tryd.underlying26 (m := 0) sz24 rfl rfl rfl) rfl hF (fun ac hF => ?_)
    refine wl (d_load1 Tryd.underlying24 rfl rfl (hb1 2 _ rfl)) rfl hF (fun ac hF => ?_)
    refine wl (d_len_slice Tryd.underlying24 rfl) rfl hF (fun ac hF => ?_)
    by_cases hlt : (i : Int) < (ks.length : Int)
    · have hdec_ : decide ((i : Int) < (ks.length : Int)) = true := decide_eq_true hlt
      have hdec_hlt := hdec_
      refine wl (d_bool (c := true) (d_lss rfl rfl) (hdec_hlt)) rfl hF (fun ac hF => ?_)
      refine wl (d_move rfl) rfl hF (fun ac hF => ?_)
      refine wlg rfl (d_move rfl) rfl hF (fun ac hF => ?_)
      by_cases hm5 : (m : Int) ≤ 5000
      · have hdec_ : decide ((m : Int) ≤ 5000) = true := decide_eq_true hm5
        have hdec_hm5 := hdec_
        refine wlg rfl (d_bool (c := true) (d_leq rfl rfl) (hdec_hm5)) rfl hF (fun ac hF => ?_)
        refine wl (d_pick (b := true) rfl rfl) rfl hF (fun ac hF => ?_)
        refine wl (d_move rfl) rfl hF (fun ac hF => ?_)
        refine wlg rfl (d_move rfl) rfl hF (fun ac hF => ?_)
        refine wl (d_pick (b := true) rfl rfl) rfl hF (fun ac hF => ?_)
        refine wl_nil ?_
        have hF := hF.sub (L' := [(1, (Value.int .i64 (d : Int))), (2, (Value.pointer (some ⟨b1, 0, none⟩))), (6, (Value.bool ok)), (7, (Value.int .i64 (m : Int))), (8, (Value.int .i64 (i : Int))), (83, (Value.bool ok))]) ⟨rfl, rfl, rfl, rfl, rfl, rfl, trivial⟩
        refine then_n ?_
        refine wp_if hF rfl (fun h => ?_) (fun h => ?_)
        · have hok := h
          clear h
          subst hok
          have hok2 := hokd rfl
          obtain ⟨b0, o0, hae, hat0⟩ := hsl (by omega)
          obtain ⟨t1, hi⟩ : ∃ t, ks[i]? = some t := ⟨_, List.getElem?_eq_getElem (by omega)⟩
          have hmem : t1 ∈ ks := List.mem_of_getElem? hi
          obtain ⟨a1, ha1, hat1⟩ := hks.at hat0 i t1 hi
          obtain ⟨k1_, nm1, ad1, l1, cap1, rfl⟩ := ha1.form
          refine wp_skip ?_
          refine then_n ?_
          refine wp_seq ?_
          refine wp_block ?_
          refine wp_seq ?_
          refine wp_region_lit ?_
          refine wl (d_fieldAddrQ Tryd.underlying26 (m := 0) sz24 rfl rfl rfl) rfl hF (fun ac hF => ?_)
          refine wl (d_load1 Tryd.underlying24 rfl rfl (hb1 2 _ rfl)) rfl hF (fun ac hF => ?_)
          refine wl (d_move rfl) rfl hF (fun ac hF => ?_)
          refine wl (d_ixSmQ (b := b0) (o := o0) (j := i) (q := o0 + i * 3) Tryd.underlying24 sz26 (by rw [← hae]; rfl) rfl rfl (by omega) rfl) rfl hF (fun ac hF => ?_)
          refine wl (d_loadC Tryd.underlying26 rfl sz26 rfl (hat1.mv hC (by simp)) rfl) rfl hF (fun ac hF => ?_)
          refine wl (d_move rfl) rfl hF (fun ac hF => ?_)
          refine wl (d_add rfl rfl (wrap_i64 (by omega) (by omega))) rfl hF (fun ac hF => ?_)
          refine wlR (ok_call c49 rfl (ih t1 hmem _ (d + 1) _ (IsT.mv hC (by simp) (fun x hx => .inl hx) _ _ ha1) (by omega))) rfl hF ?_
          rintro _ w ac ⟨mz, okz, rfl, hrz, hg_⟩ hF
          have hch_ : Ch [] _ w := Gr.ch hg_
          have hC := hC.trans' hch_ (fun z hz => .inr (absurd hz (by simp)))
          have hib1 := Nat.lt_of_lt_of_le hib1 (hch_).size
          have hb1 := hb1.mv hch_ (by first | assumption | (simp; done) | (simp <;> omega))
          refine wl (d_move rfl) rfl hF (fun ac hF => ?_)
          refine wl (d_extract (v := (Value.int .i64 (mz : Int))) rfl rfl) rfl hF (fun ac hF => ?_)
          refine wl (d_extract (v := (Value.bool okz)) rfl rfl) rfl hF (fun ac hF => ?_)
          refine wl (d_assign rfl) rfl hF (fun ac hF => ?_)
          refine wl (d_assign rfl) rfl hF (fun ac hF => ?_)
          refine wl_nil ?_
          have hF := hF.sub (L' := [(1, (Value.int .i64 (d : Int))), (2, (Value.pointer (some ⟨b1, 0, none⟩))), (6, (Value.bool true)), (7, (Value.int .i64 (m : Int))), (8, (Value.int .i64 (i : Int))), (9, (Value.int .i64 (mz : Int))), (10, (Value.bool okz)), (83, (Value.bool true))]) ⟨rfl, rfl, rfl, rfl, rfl, rfl, rfl, rfl, trivial⟩
          refine then_n ?_
          refine wp_seq ?_
          refine wp_region_lit ?_
          refine wl (d_move rfl) rfl hF (fun ac hF => ?_)
          refine wl (d_move rfl) rfl hF (fun ac hF => ?_)
          refine wl (d_add rfl rfl (wrap_i64 (by omega) (by have := rsz_le t1 (d + 1); rw [hrz] at this; simp only at this; omega))) rfl hF (fun ac hF => ?_)
          refine wl (d_assign rfl) rfl hF (fun ac hF => ?_)
          refine wl_nil ?_
          have hF := hF.sub (L' := [(1, (Value.int .i64 (d : Int))), (2, (Value.pointer (some ⟨b1, 0, none⟩))), (6, (Value.bool true)), (7, (Value.int .i64 ((m + mz : Nat) : Int))), (8, (Value.int .i64 (i : Int))), (9, (Value.int .i64 (mz : Int))), (10, (Value.bool okz)), (83, (Value.bool true))]) ⟨rfl, rfl, rfl, rfl, rfl, rfl, rfl, rfl, trivial⟩
          refine then_n ?_
          refine wp_region_lit ?_
          refine wl (d_move rfl) rfl hF (fun ac hF => ?_)
          refine wl (d_move rfl) rfl hF (fun ac hF => ?_)
          refine wlg rfl (d_move rfl) rfl hF (fun ac hF => ?_)
          refine wl (d_pick (b := true) rfl rfl) rfl hF (fun ac hF => ?_)
          refine wl (d_assign rfl) rfl hF (fun ac hF => ?_)
          refine wl_nil ?_
          have hF := hF.sub (L' := [(1, (Value.int .i64 (d : Int))), (2, (Value.pointer (some ⟨b1, 0, none⟩))), (6, (Value.bool okz)), (7, (Value.int .i64 ((m + mz : Nat) : Int))), (8, (Value.int .i64 (i : Int))), (9, (Value.int .i64 (mz : Int))), (10, (Value.bool okz)), (83, (Value.bool true))]) ⟨rfl, rfl, rfl, rfl, rfl, rfl, rfl, rfl, trivial⟩
          refine block_n ?_
          refine then_n ?_
          refine wp_region_lit ?_
          refine wl (d_move rfl) rfl hF (fun ac hF => ?_)
          refine wl (d_add rfl rfl (wrap_i64 (by omega) (by omega))) rfl hF (fun ac hF => ?_)
          refine wl (d_assign rfl) rfl hF (fun ac hF => ?_)
          refine wl_nil ?_
          have hF := hF.sub (L' := [(1, (Value.int .i64 (d : Int))), (2, (Value.pointer (some ⟨b1, 0, none⟩))), (6, (Value.bool okz)), (7, (Value.int .i64 ((m + mz : Nat) : Int))), (8, (Value.int .i64 ((i : Int) + 1))), (9, (Value.int .i64 (mz : Int))), (10, (Value.bool okz)), (83, (Value.bool true))]) ⟨rfl, rfl, rfl, rfl, rfl, rfl, rfl, rfl, trivial⟩
          refine then_n ?_
          refine ⟨_, ?_, i + 1, m + mz, _, rfl, (by omega), (by have := rsz_le t1 (d + 1); rw [hrz] at this; simp only at this; omega), (by rw [← hcn, rszL_drop hi (by omega), hrz]), (fun _ => hokd rfl), hF.sub ⟨rfl, rfl, rfl, rfl, rfl, trivial⟩, ⟨hC, hib1, lob1, hb1, trivial⟩⟩
          omega
        · have hok := h
          clear h
          have hfin : (m, ok) = rszL ks (d + 1) 1 (rok k nm ks.length d) := by rw [← hcn, rszL_cut (fun h => by rw [hok] at h; cases h.2)]
          refine wp_exit ?_
          refine then_exit ?_
          refine then_exit ?_
          refine block_exit ?_
          refine then_n ?_
          refine wp_seq ?_
          refine wp_region_lit ?_
          refine wl (d_move rfl) rfl hF (fun ac hF => ?_)
          refine wl (d_min (r := ((min m 5001 : Nat) : Int)) rfl rfl (by split <;> omega)) rfl hF (fun ac hF => ?_)
          refine wl (d_move rfl) rfl hF (fun ac hF => ?_)
          refine wl (d_assign rfl) rfl hF (fun ac hF => ?_)
          refine wl (d_assign rfl) rfl hF (fun ac hF => ?_)
          refine wl_nil ?_
          have hF := hF.sub (L' := [(1, (Value.int .i64 (d : Int))), (2, (Value.pointer (some ⟨b1, 0, none⟩))), (4, (Value.int .i64 ((min m 5001 : Nat) : Int))), (5, (Value.bool ok)), (6, (Value.bool ok)), (7, (Value.int .i64 (m : Int))), (8, (Value.int .i64 (i : Int))), (83, (Value.bool ok))]) ⟨rfl, rfl, rfl, rfl, rfl, rfl, rfl, rfl, trivial⟩
          refine then_n ?_
          refine wp_ret ?_
          refine body_ret hF (results2 Tryd.results49 (RV.tmp hF rfl) (RV.tmp hF rfl)) ?_
          exact ⟨_, _, rfl, by simp only [rsz]; rw [← hfin], hC.gr⟩
      · have hdec_ : decide ((m : Int) ≤ 5000) = false := decide_eq_false hm5
        have hdec_hm5 := hdec_
        have hfin : (m, ok) = rszL ks (d + 1) 1 (rok k nm ks.length d) := by rw [← hcn, rszL_cut (fun h => by omega)]
        refine wlg rfl (d_bool (c := false) (d_leq rfl rfl) (hdec_hm5)) rfl hF (fun ac hF => ?_)
        refine wl (d_pick (b := true) rfl rfl) rfl hF (fun ac hF => ?_)
        refine wl (d_move rfl) rfl hF (fun ac hF => ?_)
        refine wlgs (c := false) rfl rfl rfl hF (fun ac hF => ?_)
        refine wl (d_pick (b := false) rfl rfl) rfl hF (fun ac hF => ?_)
        refine wl_nil ?_
        have hF := hF.sub (L' := [(1, (Value.int .i64 (d : Int))), (2, (Value.pointer (some ⟨b1, 0, none⟩))), (6, (Value.bool ok)), (7, (Value.int .i64 (m : Int))), (8, (Value.int .i64 (i : Int))), (83, (Value.bool false))]) ⟨rfl, rfl, rfl, rfl, rfl, rfl, trivial⟩
        refine then_n ?_
        refine wp_cond_false (hF.eval rfl) ?_
        refine wp_exit ?_
        refine then_exit ?_
        refine then_exit ?_
        refine block_exit ?_
        refine then_n ?_
        refine wp_seq ?_
        refine wp_region_lit ?_
        refine wl (d_move rfl) rfl hF (fun ac hF => ?_)
        refine wl (d_min (r := ((min m 5001 : Nat) : Int)) rfl rfl (by split <;> omega)) rfl hF (fun ac hF => ?_)
        refine wl (d_move rfl) rfl hF (fun ac hF => ?_)
        refine wl (d_assign rfl) rfl hF (fun ac hF => ?_)
        refine wl (d_assign rfl) rfl hF (fun ac hF => ?_)
        refine wl_nil ?_
        have hF := hF.sub (L' := [(1, (Value.int .i64 (d : Int))), (2, (Value.pointer (some ⟨b1, 0, none⟩))), (4, (Value.int .i64 ((min m 5001 : Nat) : Int))), (5, (Value.bool ok)), (6, (Value.bool ok)), (7, (Value.int .i64 (m : Int))), (8, (Value.int .i64 (i : Int))), (83, (Value.bool false))]) ⟨rfl, rfl, rfl, rfl, rfl, rfl, rfl, rfl, trivial⟩
        refine then_n ?_
        refine wp_ret ?_
        refine body_ret hF (results2 Tryd.results49 (RV.tmp hF rfl) (RV.tmp hF rfl)) ?_
        exact ⟨_, _, rfl, by simp only [rsz]; rw [← hfin], hC.gr⟩
    · have hdec_ : decide ((i : Int) < (ks.length : Int)) = false := decide_eq_false hlt
      have hdec_hlt := hdec_
      have hie : i = ks.length := by omega
      have hfin : (m, ok) = rszL ks (d + 1) 1 (rok k nm ks.length d) := by rw [← hcn, hie, List.drop_length]; rfl
      refine wl (d_bool (c := false) (d_lss rfl rfl) (hdec_hlt)) rfl hF (fun ac hF => ?_)
      refine wl (d_move rfl) rfl hF (fun ac hF => ?_)
      refine wlgs (c := false) rfl rfl rfl hF (fun ac hF => ?_)
      refine wlgs (c := false) rfl rfl rfl hF (fun ac hF => ?_)
      refine wl (d_pick (b := false) rfl rfl) rfl hF (fun ac hF => ?_)
      refine wl (d_move rfl) rfl hF (fun ac hF => ?_)
      refine wlgs (c := false) rfl rfl rfl hF (fun ac hF => ?_)
      refine wl (d_pick (b := false) rfl rfl) rfl hF (fun ac hF => ?_)
      refine wl_nil ?_
      have hF := hF.sub (L' := [(1, (Value.int .i64 (d : Int))), (2, (Value.pointer (some ⟨b1, 0, none⟩))), (6, (Value.bool ok)), (7, (Value.int .i64 (m : Int))), (8, (Value.int .i64 (i : Int))), (83, (Value.bool false))]) ⟨rfl, rfl, rfl, rfl, rfl, rfl, trivial⟩
      refine then_n ?_
      refine wp_cond_false (hF.eval rfl) ?_
      refine wp_exit ?_
      refine then_exit ?_
      refine then_exit ?_
      refine block_exit ?_
      refine then_n ?_
      refine wp_seq ?_
      refine wp_region_lit ?_
      refine wl (d_move rfl) rfl hF (fun ac hF => ?_)
      refine wl (d_min (r := ((min m 5001 : Nat) : Int)) rfl rfl (by split <;> omega)) rfl hF (fun ac hF => ?_)
      refine wl (d_move rfl) rfl hF (fun ac hF => ?_)
      refine wl (d_assign rfl) rfl hF (fun ac hF => ?_)
      refine wl (d_assign rfl) rfl hF (fun ac hF => ?_)
      refine wl_nil ?_
      have hF := hF.sub (L' := [(1, (Value.int .i64 (d : Int))), (2, (Value.pointer (some ⟨b1, 0, none⟩))), (4, (Value.int .i64 ((min m 5001 : Nat) : Int))), (5, (Value.bool ok)), (6, (Value.bool ok)), (7, (Value.int .i64 (m : Int))), (8, (Value.int .i64 (i : Int))), (83, (Value.bool false))]) ⟨rfl, rfl, rfl, rfl, rfl, rfl, rfl, rfl, trivial⟩
      refine then_n ?_
      refine wp_ret ?_
      refine body_ret hF (results2 Tryd.results49 (RV.tmp hF rfl) (RV.tmp hF rfl)) ?_
      exact ⟨_, _, rfl, by simp only [rsz]; rw [← hfin], hC.gr⟩
  refine wp_block ?_
  refine wp_seq ?_
  refine wp_region_lit ?_
  refine wl (d_eql rfl rfl) rfl hF (fun ac hF => ?_)
  refine wl (d_assign rfl) rfl hF (fun ac hF => ?_)
  refine wl_nil ?_
  have hF := hF.sub (L' := [(0, (Value.agg #[(Value.int .i64 k), (Value.int .i64 nm), (Value.slice ad ks.length cap)])), (1, (Value.int .i64 (d : Int))), (2, (Value.pointer (some ⟨b1, 0, none⟩))), (4, (Value.int .i64 0)), (5, (Value.bool false)), (6, (Value.bool (decide ((d : Int) ≤ 100)))), (14, (Value.int .i64 k)), (15, (Value.bool (decide (k = 1))))]) ⟨rfl, rfl, rfl, rfl, rfl, rfl, rfl, rfl, trivial⟩
  refine then_n ?_
  refine wp_if hF rfl (fun h => ?_) (fun h => ?_)
  · have hk1 := of_decide_eq_true h
    clear h
    refine wp_region_lit ?_
    by_cases hdd : (d : Int) ≤ 100
    · have hdec_ : decide ((d : Int) ≤ 100) = true := decide_eq_true hdd
      have hdec_hdd := hdec_
      rw [hdec_] at hF
      refine wl (d_move rfl) rfl hF (fun ac hF => ?_)
      refine wl (d_move rfl) rfl hF (fun ac hF => ?_)
      refine wlg rfl (d_fieldAddrQ Tryd.underlying26 (m := 0) sz3 rfl rfl rfl) rfl hF (fun ac hF => ?_)
      refine wlg rfl (d_load1 Tryd.underlying3 rfl rfl (hb1 1 _ rfl)) rfl hF (fun ac hF => ?_)
      by_cases hn0 : 0 ≤ nm
      · have hdec_ : decide (0 ≤ nm) = true := decide_eq_true hn0
        have hdec_hn0 := hdec_
        refine wlg rfl (d_bool (c := true) (d_geq rfl rfl) (hdec_hn0)) rfl hF (fun ac hF => ?_)
        refine wl (d_pick (b := true) rfl rfl) rfl hF (fun ac hF => ?_)
        refine wl (d_move rfl) rfl hF (fun ac hF => ?_)
        refine wlg rfl (d_fieldAddrQ Tryd.underlying26 (m := 0) sz3 rfl rfl rfl) rfl hF (fun ac hF => ?_)
        refine wlg rfl (d_load1 Tryd.underlying3 rfl rfl (hb1 1 _ rfl)) rfl hF (fun ac hF => ?_)
        by_cases hn1 : nm ≤ 1073741824
        · have hdec_ : decide (nm ≤ 1073741824) = true := decide_eq_true hn1
          have hdec_hn1 := hdec_
          refine wlg rfl (d_bool (c := true) (d_leq rfl rfl) (hdec_hn1)) rfl hF (fun ac hF => ?_)
          refine wl (d_pick (b := true) rfl rfl) rfl hF (fun ac hF => ?_)
          refine wl (d_move rfl) rfl hF (fun ac hF => ?_)
          refine wlg rfl (d_fieldAddrQ Tryd.underlying26 (m := 0) sz24 rfl rfl rfl) rfl hF (fun ac hF => ?_)
          refine wlg rfl (d_load1 Tryd.underlying24 rfl rfl (hb1 2 _ rfl)) rfl hF (fun ac hF => ?_)
          refine wlg rfl (d_len_slice Tryd.underlying24 rfl) rfl hF (fun ac hF => ?_)
          by_cases hl0 : (ks.length : Int) = 0
          · have hdec_ : decide ((ks.length : Int) = 0) = true := decide_eq_true hl0
            have hdec_hl0 := hdec_
            refine wlg rfl (d_bool (c := true) (d_eql rfl rfl) (hdec_hl0)) rfl hF (fun ac hF => ?_)
            refine wl (d_pick (b := true) rfl rfl) rfl hF (fun ac hF => ?_)
            refine wl (d_assign rfl) rfl hF (fun ac hF => ?_)
            refine wl_nil ?_
            have hF := hF.sub (L' := [(0, (Value.agg #[(Value.int .i64 k), (Value.int .i64 nm), (Value.slice ad ks.length cap)])), (1, (Value.int .i64 (d : Int))), (2, (Value.pointer (some ⟨b1, 0, none⟩))), (4, (Value.int .i64 0)), (5, (Value.bool false)), (6, (Value.bool true)), (14, (Value.int .i64 k)), (15, (Value.bool (decide (k = 1))))]) ⟨rfl, rfl, rfl, rfl, rfl, rfl, rfl, rfl, trivial⟩
            refine block_n ?_
            refine then_n ?_
            exact ⟨_, hF.sub ⟨rfl, rfl, rfl, rfl, rfl, trivial⟩, (by first | exact (decide_eq_true (by omega)).symm | exact (decide_eq_false (by omega)).symm), ⟨hC, hib1, lob1, hb1, trivial⟩⟩
          · have hdec_ : decide ((ks.length : Int) = 0) = false := decide_eq_false hl0
            have hdec_hl0 := hdec_
            refine wlg rfl (d_bool (c := false) (d_eql rfl rfl) (hdec_hl0)) rfl hF (fun ac hF => ?_)
            refine wl (d_pick (b := true) rfl rfl) rfl hF (fun ac hF => ?_)
            refine wl (d_assign rfl) rfl hF (fun ac hF => ?_)
            refine wl_nil ?_
            have hF := hF.sub (L' := [(0, (Value.agg #[(Value.int .i64 k), (Value.int .i64 nm), (Value.slice ad ks.length cap)])), (1, (Value.int .i64 (d : Int))), (2, (Value.pointer (some ⟨b1, 0, none⟩))), (4, (Value.int .i64 0)), (5, (Value.bool false)), (6, (Value.bool false)), (14, (Value.int .i64 k)), (15, (Value.bool (decide (k = 1))))]) ⟨rfl, rfl, rfl, rfl, rfl, rfl, rfl, rfl, trivial⟩
            refine block_n ?_
            refine then_n ?_
            exact ⟨_, hF.sub ⟨rfl, rfl, rfl, rfl, rfl, trivial⟩, (by first | exact (decide_eq_true (by omega)).symm | exact (decide_eq_false (by omega)).symm), ⟨hC, hib1, lob1, hb1, trivial⟩⟩
        · have hdec_ : decide (nm ≤ 1073741824) = false := decide_eq_false hn1
          have hdec_hn1 := hdec_
          refine wlg rfl (d_bool (c := false) (d_leq rfl rfl) (hdec_hn1)) rfl hF (fun ac hF => ?_)
          refine wl (d_pick (b := true) rfl rfl) rfl hF (fun ac hF => ?_)
          refine wl (d_move rfl) rfl hF (fun ac hF => ?_)
          refine wlgs (c := false) rfl rfl rfl hF (fun ac hF => ?_)
          refine wlgs (c := false) rfl rfl rfl hF (fun ac hF => ?_)
          refine wlgs (c := false) rfl rfl rfl hF (fun ac hF => ?_)
          refine wlgs (c := false) rfl rfl rfl hF (fun ac hF => ?_)
          refine wl (d_pick (b := false) rfl rfl) rfl hF (fun ac hF => ?_)
          refine wl (d_assign rfl) rfl hF (fun ac hF => ?_)
          refine wl_nil ?_
          have hF := hF.sub (L' := [(0, (Value.agg #[(Value.int .i64 k), (Value.int .i64 nm), (Value.slice ad ks.length cap)])), (1, (Value.int .i64 (d : Int))), (2, (Value.pointer (some ⟨b1, 0, none⟩))), (4, (Value.int .i64 0)), (5, (Value.bool false)), (6, (Value.bool false)), (14, (Value.int .i64 k)), (15, (Value.bool (decide (k = 1))))]) ⟨rfl, rfl, rfl, rfl, rfl, rfl, rfl, rfl, trivial⟩
          refine block_n ?_
          refine then_n ?_
          exact ⟨_, hF.sub ⟨rfl, rfl, rfl, rfl, rfl, trivial⟩, (by first | exact (decide_eq_true (by omega)).symm | exact (decide_eq_false (by omega)).symm), ⟨hC, hib1, lob1, hb1, trivial⟩⟩
      · have hdec_ : decide (0 ≤ nm) = false := decide_eq_false hn0
        have hdec_hn0 := hdec_
        refine wlg rfl (d_bool (c := false) (d_geq rfl rfl) (hdec_hn0)) rfl hF (fun ac hF => ?_)
        refine wl (d_pick (b := true) rfl rfl) rfl hF (fun ac hF => ?_)
        refine wl (d_move rfl) rfl hF (fun ac hF => ?_)
        refine wlgs (c := false) rfl rfl rfl hF (fun ac hF => ?_)
        refine wlgs (c := false) rfl rfl rfl hF (fun ac hF => ?_)
        refine wlgs (c := false) rfl rfl rfl hF (fun ac hF => ?_)
        refine wl (d_pick (b := false) rfl rfl) rfl hF (fun ac hF => ?_)
        refine wl (d_move rfl) rfl hF (fun ac hF => ?_)
        refine wlgs (c := false) rfl rfl rfl hF (fun ac hF => ?_)
        refine wlgs (c := false) rfl rfl rfl hF (fun ac hF => ?_)
        refine wlgs (c := false) rfl rfl rfl hF (fun ac hF => ?_)
        refine wlgs (c := false) rfl rfl rfl hF (fun ac hF => ?_)
        refine wl (d_pick (b := false) rfl rfl) rfl hF (fun ac hF => ?_)
        refine wl (d_assign rfl) rfl hF (fun ac hF => ?_)
        refine wl_nil ?_
        have hF := hF.sub (L' := [(0, (Value.agg #[(Value.int .i64 k), (Value.int .i64 nm), (Value.slice ad ks.length cap)])), (1, (Value.int .i64 (d : Int))), (2, (Value.pointer (some ⟨b1, 0, none⟩))), (4, (Value.int .i64 0)), (5, (Value.bool false)), (6, (Value.bool false)), (14, (Value.int .i64 k)), (15, (Value.bool (decide (k = 1))))]) ⟨rfl, rfl, rfl, rfl, rfl, rfl, rfl, rfl, trivial⟩
        refine block_n ?_
        refine then_n ?_
        exact ⟨_, hF.sub ⟨rfl, rfl, rfl, rfl, rfl, trivial⟩, (by first | exact (decide_eq_true (by omega)).symm | exact (decide_eq_false (by omega)).symm), ⟨hC, hib1, lob1, hb1, trivial⟩⟩
    · have hdec_ : decide ((d : Int) ≤ 100) = false := decide_eq_false hdd
      have hdec_hdd := hdec_
      rw [hdec_] at hF
      refine wl (d_move rfl) rfl hF (fun ac hF => ?_)
      refine wl (d_move rfl) rfl hF (fun ac hF => ?_)
      refine wlgs (c := false) rfl rfl rfl hF (fun ac hF => ?_)
      refine wlgs (c := false) rfl rfl rfl hF (fun ac hF => ?_)
      refine wlgs (c := false) rfl rfl rfl hF (fun ac hF => ?_)
      refine wl (d_pick (b := false) rfl rfl) rfl hF (fun ac hF => ?_)
      refine wl (d_move rfl) rfl hF (fun ac hF => ?_)
      refine wlgs (c := false) rfl rfl rfl hF (fun ac hF => ?_)
      refine wlgs (c := false) rfl rfl rfl hF (fun ac hF => ?_)
      refine wlgs (c := false) rfl rfl rfl hF (fun ac hF => ?_)
      refine wl (d_pick (b := false) rfl rfl) rfl hF (fun ac hF => ?_)
      refine wl (d_move rfl) rfl hF (fun ac hF => ?_)
      refine wlgs (c := false) rfl rfl rfl hF (fun ac hF => ?_)
      refine wlgs (c := false) rfl rfl rfl hF (fun ac hF => ?_)
      refine wlgs (c := false) rfl rfl rfl hF (fun ac hF => ?_)
      refine wlgs (c := false) rfl rfl rfl hF (fun ac hF => ?_)
      refine wl (d_pick (b := false) rfl rfl) rfl hF (fun ac hF => ?_)
      refine wl (d_assign rfl) rfl hF (fun ac hF => ?_)
      refine wl_nil ?_
      have hF := hF.sub (L' := [(0, (Value.agg #[(Value.int .i64 k), (Value.int .i64 nm), (Value.slice ad ks.length cap)])), (1, (Value.int .i64 (d : Int))), (2, (Value.pointer (some ⟨b1, 0, none⟩))), (4, (Value.int .i64 0)), (5, (Value.bool false)), (6, (Value.bool false)), (14, (Value.int .i64 k)), (15, (Value.bool (decide (k = 1))))]) ⟨rfl, rfl, rfl, rfl, rfl, rfl, rfl, rfl, trivial⟩
      refine block_n ?_
      refine then_n ?_
      exact ⟨_, hF.sub ⟨rfl, rfl, rfl, rfl, rfl, trivial⟩, (by first | exact (decide_eq_true (by omega)).symm | exact (decide_eq_false (by omega)).symm), ⟨hC, hib1, lob1, hb1, trivial⟩⟩
  · have hk1 := of_decide_eq_false h
    clear h
    refine wp_seq ?_
    refine wp_region_lit ?_
    refine wl (d_eql rfl rfl) rfl hF (fun ac hF => ?_)
    refine wl (d_assign rfl) rfl hF (fun ac hF => ?_)
    refine wl_nil ?_
    have hF := hF.sub (L' := [(0, (Value.agg #[(Value.int .i64 k), (Value.int .i64 nm), (Value.slice ad ks.length cap)])), (1, (Value.int .i64 (d : Int))), (2, (Value.pointer (some ⟨b1, 0, none⟩))), (4, (Value.int .i64 0)), (5, (Value.bool false)), (6, (Value.bool (decide ((d : Int) ≤ 100)))), (14, (Value.int .i64 k)), (15, (Value.bool (decide (k = 1)))), (34, (Value.bool (decide (k = 2))))]) ⟨rfl, rfl, rfl, rfl, rfl, rfl, rfl, rfl, rfl, trivial⟩
    refine then_n ?_
    refine wp_if hF rfl (fun h => ?_) (fun h => ?_)
    · have hk2 := of_decide_eq_true h
      clear h
      refine wp_region_lit ?_
      by_cases hdd : (d : Int) ≤ 100
      · have hdec_ : decide ((d : Int) ≤ 100) = true := decide_eq_true hdd
        have hdec_hdd := hdec_
        rw [hdec_] at hF
        refine wl (d_move rfl) rfl hF (fun ac hF => ?_)
        refine wl (d_move rfl) rfl hF (fun ac hF => ?_)
        refine wlg rfl (d_fieldAddrQ Tryd.underlying26 (m := 0) sz24 rfl rfl rfl) rfl hF (fun ac hF => ?_)
        refine wlg rfl (d_load1 Tryd.underlying24 rfl rfl (hb1 2 _ rfl)) rfl hF (fun ac hF => ?_)
        refine wlg rfl (d_len_slice Tryd.underlying24 rfl) rfl hF (fun ac hF => ?_)
        by_cases hl1 : (ks.length : Int) = 1
        · have hdec_ : decide ((ks.length : Int) = 1) = true := decide_eq_true hl1
          have hdec_hl1 := hdec_
          refine wlg rfl (d_bool (c := true) (d_eql rfl rfl) (hdec_hl1)) rfl hF (fun ac hF => ?_)
          refine wl (d_pick (b := true) rfl rfl) rfl hF (fun ac hF => ?_)
          refine wl (d_assign rfl) rfl hF (fun ac hF => ?_)
          refine wl_nil ?_
          have hF := hF.sub (L' := [(0, (Value.agg #[(Value.int .i64 k), (Value.int .i64 nm), (Value.slice ad ks.length cap)])), (1, (Value.int .i64 (d : Int))), (2, (Value.pointer (some ⟨b1, 0, none⟩))), (4, (Value.int .i64 0)), (5, (Value.bool false)), (6, (Value.bool true)), (14, (Value.int .i64 k)), (15, (Value.bool (decide (k = 1)))), (34, (Value.bool (decide (k = 2))))]) ⟨rfl, rfl, rfl, rfl, rfl, rfl, rfl, rfl, rfl, trivial⟩
          refine block_n ?_
          refine then_n ?_
          exact ⟨_, hF.sub ⟨rfl, rfl, rfl, rfl, rfl, trivial⟩, (by first | exact (decide_eq_true (by omega)).symm | exact (decide_eq_false (by omega)).symm), ⟨hC, hib1, lob1, hb1, trivial⟩⟩
        · have hdec_ : decide ((ks.length : Int) = 1) = false := decide_eq_false hl1
          have hdec_hl1 := hdec_
          refine wlg rfl (d_bool (c := false) (d_eql rfl rfl) (hdec_hl1)) rfl hF (fun ac hF => ?_)
          refine wl (d_pick (b := true) rfl rfl) rfl hF (fun ac hF => ?_)
          refine wl (d_assign rfl) rfl hF (fun ac hF => ?_)
          refine wl_nil ?_
          have hF := hF.sub (L' := [(0, (Value.agg #[(Value.int .i64 k), (Value.int .i64 nm), (Value.slice ad ks.length cap)])), (1, (Value.int .i64 (d : Int))), (2, (Value.pointer (some ⟨b1, 0, none⟩))), (4, (Value.int .i64 0)), (5, (Value.bool false)), (6, (Value.bool false)), (14, (Value.int .i64 k)), (15, (Value.bool (decide (k = 1)))), (34, (Value.bool (decide (k = 2))))]) ⟨rfl, rfl, rfl, rfl, rfl, rfl, rfl, rfl, rfl, trivial⟩
          refine block_n ?_
          refine then_n ?_
          exact ⟨_, hF.sub ⟨rfl, rfl, rfl, rfl, rfl, trivial⟩, (by first | exact (decide_eq_true (by omega)).symm | exact (decide_eq_false (by omega)).symm), ⟨hC, hib1, lob1, hb1, trivial⟩⟩
      · have hdec_ : decide ((d : Int) ≤ 100) = false := decide_eq_false hdd
        have hdec_hdd := hdec_
        rw [hdec_] at hF
        refine wl (d_move rfl) rfl hF (fun ac hF => ?_)
        refine wl (d_move rfl) rfl hF (fun ac hF => ?_)
        refine wlgs (c := false) rfl rfl rfl hF (fun ac hF => ?_)
        refine wlgs (c := false) rfl rfl rfl hF (fun ac hF => ?_)
        refine wlgs (c := false) rfl rfl rfl hF (fun ac hF => ?_)
        refine wlgs (c := false) rfl rfl rfl hF (fun ac hF => ?_)
        refine wl (d_pick (b := false) rfl rfl) rfl hF (fun ac hF => ?_)
        refine wl (d_assign rfl) rfl hF (fun ac hF => ?_)
        refine wl_nil ?_
        have hF := hF.sub (L' := [(0, (Value.agg #[(Value.int .i64 k), (Value.int .i64 nm), (Value.slice ad ks.length cap)])), (1, (Value.int .i64 (d : Int))), (2, (Value.pointer (some ⟨b1, 0, none⟩))), (4, (Value.int .i64 0)), (5, (Value.bool false)), (6, (Value.bool false)), (14, (Value.int .i64 k)), (15, (Value.bool (decide (k = 1)))), (34, (Value.bool (decide (k = 2))))]) ⟨rfl, rfl, rfl, rfl, rfl, rfl, rfl, rfl, rfl, trivial⟩
        refine block_n ?_
        refine then_n ?_
        exact ⟨_, hF.sub ⟨rfl, rfl, rfl, rfl, rfl, trivial⟩, (by first | exact (decide_eq_true (by omega)).symm | exact (decide_eq_false (by omega)).symm), ⟨hC, hib1, lob1, hb1, trivial⟩⟩
    · have hk2 := of_decide_eq_false h
      clear h
      refine wp_seq ?_
      refine wp_region_lit ?_
      refine wl (d_eql rfl rfl) rfl hF (fun ac hF => ?_)
      refine wl (d_assign rfl) rfl hF (fun ac hF => ?_)
      refine wl_nil ?_
      have hF := hF.sub (L' := [(0, (Value.agg #[(Value.int .i64 k), (Value.int .i64 nm), (Value.slice ad ks.length cap)])), (1, (Value.int .i64 (d : Int))), (2, (Value.pointer (some ⟨b1, 0, none⟩))), (4, (Value.int .i64 0)), (5, (Value.bool false)), (6, (Value.bool (decide ((d : Int) ≤ 100)))), (14, (Value.int .i64 k)), (15, (Value.bool (decide (k = 1)))), (34, (Value.bool (decide (k = 2)))), (43, (Value.bool (decide (k = 6))))]) ⟨rfl, rfl, rfl, rfl, rfl, rfl, rfl, rfl, rfl, rfl, trivial⟩
      refine then_n ?_
      refine wp_if hF rfl (fun h => ?_) (fun h => ?_)
      · have hk6 := of_decide_eq_true h
        clear h
        refine wp_region_lit ?_
        by_cases hdd : (d : Int) ≤ 100
        · have hdec_ : decide ((d : Int) ≤ 100) = true := decide_eq_true hdd
          have hdec_hdd := hdec_
          rw [hdec_] at hF
          refine wl (d_move rfl) rfl hF (fun ac hF => ?_)
          refine wl (d_move rfl) rfl hF (fun ac hF => ?_)
          refine wlg rfl (d_fieldAddrQ Tryd.underlying26 (m := 0) sz24 rfl rfl rfl) rfl hF (fun ac hF => ?_)
          refine wlg rfl (d_load1 Tryd.underlying24 rfl rfl (hb1 2 _ rfl)) rfl hF (fun ac hF => ?_)
          refine wlg rfl (d_len_slice Tryd.underlying24 rfl) rfl hF (fun ac hF => ?_)
          by_cases hl1 : 1 ≤ (ks.length : Int)
          · have hdec_ : decide (1 ≤ (ks.length : Int)) = true := decide_eq_true hl1
            have hdec_hl1 := hdec_
            refine wlg rfl (d_bool (c := true) (d_geq rfl rfl) (hdec_hl1)) rfl hF (fun ac hF => ?_)
            refine wl (d_pick (b := true) rfl rfl) rfl hF (fun ac hF => ?_)
            refine wl (d_move rfl) rfl hF (fun ac hF => ?_)
            refine wlg rfl (d_fieldAddrQ Tryd.underlying26 (m := 0) sz24 rfl rfl rfl) rfl hF (fun ac hF => ?_)
            refine wlg rfl (d_load1 Tryd.underlying24 rfl rfl (hb1 2 _ rfl)) rfl hF (fun ac hF => ?_)
            refine wlg rfl (d_len_slice Tryd.underlying24 rfl) rfl hF (fun ac hF => ?_)
            by_cases hl8 : (ks.length : Int) ≤ 8
            · have hdec_ : decide ((ks.length : Int) ≤ 8) = true := decide_eq_true hl8
              have hdec_hl8 := hdec_
              refine wlg rfl (d_bool (c := true) (d_leq rfl rfl) (hdec_hl8)) rfl hF (fun ac hF => ?_)
              refine wl (d_pick (b := true) rfl rfl) rfl hF (fun ac hF => ?_)
              refine wl (d_assign rfl) rfl hF (fun ac hF => ?_)
              refine wl_nil ?_
              have hF := hF.sub (L' := [(0, (Value.agg #[(Value.int .i64 k), (Value.int .i64 nm), (Value.slice ad ks.length cap)])), (1, (Value.int .i64 (d : Int))), (2, (Value.pointer (some ⟨b1, 0, none⟩))), (4, (Value.int .i64 0)), (5, (Value.bool false)), (6, (Value.bool true)), (14, (Value.int .i64 k)), (15, (Value.bool (decide (k = 1)))), (34, (Value.bool (decide (k = 2)))), (43, (Value.bool (decide (k = 6))))]) ⟨rfl, rfl, rfl, rfl, rfl, rfl, rfl, rfl, rfl, rfl, trivial⟩
              refine block_n ?_
              refine then_n ?_
              exact ⟨_, hF.sub ⟨rfl, rfl, rfl, rfl, rfl, trivial⟩, (by first | exact (decide_eq_true (by omega)).symm | exact (decide_eq_false (by omega)).symm), ⟨hC, hib1, lob1, hb1, trivial⟩⟩
            · have hdec_ : decide ((ks.length : Int) ≤ 8) = false := decide_eq_false hl8
              have hdec_hl8 := hdec_
              refine wlg rfl (d_bool (c := false) (d_leq rfl rfl) (hdec_hl8)) rfl hF (fun ac hF => ?_)
              refine wl (d_pick (b := true) rfl rfl) rfl hF (fun ac hF => ?_)
              refine wl (d_assign rfl) rfl hF (fun ac hF => ?_)
              refine wl_nil ?_
              have hF := hF.sub (L' := [(0, (Value.agg #[(Value.int .i64 k), (Value.int .i64 nm), (Value.slice ad ks.length cap)])), (1, (Value.int .i64 (d : Int))), (2, (Value.pointer (some ⟨b1, 0, none⟩))), (4, (Value.int .i64 0)), (5, (Value.bool false)), (6, (Value.bool false)), (14, (Value.int .i64 k)), (15, (Value.bool (decide (k = 1)))), (34, (Value.bool (decide (k = 2)))), (43, (Value.bool (decide (k = 6))))]) ⟨rfl, rfl, rfl, rfl, rfl, rfl, rfl, rfl, rfl, rfl, trivial⟩
              refine block_n ?_
              refine then_n ?_
              exact ⟨_, hF.sub ⟨rfl, rfl, rfl, rfl, rfl, trivial⟩, (by first | exact (decide_eq_true (by omega)).symm | exact (decide_eq_false (by omega)).symm), ⟨hC, hib1, lob1, hb1, trivial⟩⟩
          · have hdec_ : decide (1 ≤ (ks.length : Int)) = false := decide_eq_false hl1
            have hdec_hl1 := hdec_
            refine wlg rfl (d_bool (c := false) (d_geq rfl rfl) (hdec_hl1)) rfl hF (fun ac hF => ?_)
            refine wl (d_pick (b := true) rfl rfl) rfl hF (fun ac hF => ?_)
            refine wl (d_move rfl) rfl hF (fun ac hF => ?_)
            refine wlgs (c := false) rfl rfl rfl hF (fun ac hF => ?_)
            refine wlgs (c := false) rfl rfl rfl hF (fun ac hF => ?_)
            refine wlgs (c := false) rfl rfl rfl hF (fun ac hF => ?_)
            refine wlgs (c := false) rfl rfl rfl hF (fun ac hF => ?_)
            refine wl (d_pick (b := false) rfl rfl) rfl hF (fun ac hF => ?_)
            refine wl (d_assign rfl) rfl hF (fun ac hF => ?_)
            refine wl_nil ?_
            have hF := hF.sub (L' := [(0, (Value.agg #[(Value.int .i64 k), (Value.int .i64 nm), (Value.slice ad ks.length cap)])), (1, (Value.int .i64 (d : Int))), (2, (Value.pointer (some ⟨b1, 0, none⟩))), (4, (Value.int .i64 0)), (5, (Value.bool false)), (6, (Value.bool false)), (14, (Value.int .i64 k)), (15, (Value.bool (decide (k = 1)))), (34, (Value.bool (decide (k = 2)))), (43, (Value.bool (decide (k = 6))))]) ⟨rfl, rfl, rfl, rfl, rfl, rfl, rfl, rfl, rfl, rfl, trivial⟩
            refine block_n ?_
            refine then_n ?_
            exact ⟨_, hF.sub ⟨rfl, rfl, rfl, rfl, rfl, trivial⟩, (by first | exact (decide_eq_true (by omega)).symm | exact (decide_eq_false (by omega)).symm), ⟨hC, hib1, lob1, hb1, trivial⟩⟩
        · have hdec_ : decide ((d : Int) ≤ 100) = false := decide_eq_false hdd
          have hdec_hdd := hdec_
          rw [hdec_] at hF
          refine wl (d_move rfl) rfl hF (fun ac hF => ?_)
          refine wl (d_move rfl) rfl hF (fun ac hF => ?_)
          refine wlgs (c := false) rfl rfl rfl hF (fun ac hF => ?_)
          refine wlgs (c := false) rfl rfl rfl hF (fun ac hF => ?_)
          refine wlgs (c := false) rfl rfl rfl hF (fun ac hF => ?_)
          refine wlgs (c := false) rfl rfl rfl hF (fun ac hF => ?_)
          refine wl (d_pick (b := false) rfl rfl) rfl hF (fun ac hF => ?_)
          refine wl (d_move rfl) rfl hF (fun ac hF => ?_)
          refine wlgs (c := false) rfl rfl rfl hF (fun ac hF => ?_)
          refine wlgs (c := false) rfl rfl rfl hF (fun ac hF => ?_)
          refine wlgs (c := false) rfl rfl rfl hF (fun ac hF => ?_)
          refine wlgs (c := false) rfl rfl rfl hF (fun ac hF => ?_)
          refine wl (d_pick (b := false) rfl rfl) rfl hF (fun ac hF => ?_)
          refine wl (d_assign rfl) rfl hF (fun ac hF => ?_)
          refine wl_nil ?_
          have hF := hF.sub (L' := [(0, (Value.agg #[(Value.int .i64 k), (Value.int .i64 nm), (Value.slice ad ks.length cap)])), (1, (Value.int .i64 (d : Int))), (2, (Value.pointer (some ⟨b1, 0, none⟩))), (4, (Value.int .i64 0)), (5, (Value.bool false)), (6, (Value.bool false)), (14, (Value.int .i64 k)), (15, (Value.bool (decide (k = 1)))), (34, (Value.bool (decide (k = 2)))), (43, (Value.bool (decide (k = 6))))]) ⟨rfl, rfl, rfl, rfl, rfl, rfl, rfl, rfl, rfl, rfl, trivial⟩
          refine block_n ?_
          refine then_n ?_
          exact ⟨_, hF.sub ⟨rfl, rfl, rfl, rfl, rfl, trivial⟩, (by first | exact (decide_eq_true (by omega)).symm | exact (decide_eq_false (by omega)).symm), ⟨hC, hib1, lob1, hb1, trivial⟩⟩
      · have hk6 := of_decide_eq_false h
        clear h
        refine wp_seq ?_
        refine wp_seq ?_
        refine wp_region_lit ?_
        refine wl (d_eql rfl rfl) rfl hF (fun ac hF => ?_)
        refine wl (d_assign rfl) rfl hF (fun ac hF => ?_)
        refine wl_nil ?_
        have hF := hF.sub (L' := [(0, (Value.agg #[(Value.int .i64 k), (Value.int .i64 nm), (Value.slice ad ks.length cap)])), (1, (Value.int .i64 (d : Int))), (2, (Value.pointer (some ⟨b1, 0, none⟩))), (4, (Value.int .i64 0)), (5, (Value.bool false)), (6, (Value.bool (decide ((d : Int) ≤ 100)))), (14, (Value.int .i64 k)), (15, (Value.bool (decide (k = 1)))), (34, (Value.bool (decide (k = 2)))), (43, (Value.bool (decide (k = 6)))), (58, (Value.bool (decide (k = 3))))]) ⟨rfl, rfl, rfl, rfl, rfl, rfl, rfl, rfl, rfl, rfl, rfl, trivial⟩
        refine then_n ?_
        refine wp_if hF rfl (fun h => ?_) (fun h => ?_)
        · have hc7 := of_decide_eq_true h
          clear h
          refine wp_skip ?_
          refine then_n ?_
          refine wp_if hF rfl (fun h => ?_) (fun h => ?_)
          · have hc8 := of_decide_eq_true h
            clear h
            refine wp_region_lit ?_
            by_cases hdd : (d : Int) ≤ 100
            · have hdec_ : decide ((d : Int) ≤ 100) = true := decide_eq_true hdd
              have hdec_hdd := hdec_
              rw [hdec_] at hF
              refine wl (d_move rfl) rfl hF (fun ac hF => ?_)
              refine wl (d_move rfl) rfl hF (fun ac hF => ?_)
              refine wlg rfl (d_fieldAddrQ Tryd.underlying26 (m := 0) sz24 rfl rfl rfl) rfl hF (fun ac hF => ?_)
              refine wlg rfl (d_load1 Tryd.underlying24 rfl rfl (hb1 2 _ rfl)) rfl hF (fun ac hF => ?_)
              refine wlg rfl (d_len_slice Tryd.underlying24 rfl) rfl hF (fun ac hF => ?_)
              by_cases hl2 : (ks.length : Int) = 2
              · have hdec_ : decide ((ks.length : Int) = 2) = true := decide_eq_true hl2
                have hdec_hl2 := hdec_
                refine wlg rfl (d_bool (c := true) (d_eql rfl rfl) (hdec_hl2)) rfl hF (fun ac hF => ?_)
                refine wl (d_pick (b := true) rfl rfl) rfl hF (fun ac hF => ?_)
                refine wl (d_assign rfl) rfl hF (fun ac hF => ?_)
                refine wl_nil ?_
                have hF := hF.sub (L' := [(0, (Value.agg #[(Value.int .i64 k), (Value.int .i64 nm), (Value.slice ad ks.length cap)])), (1, (Value.int .i64 (d : Int))), (2, (Value.pointer (some ⟨b1, 0, none⟩))), (4, (Value.int .i64 0)), (5, (Value.bool false)), (6, (Value.bool true)), (14, (Value.int .i64 k)), (15, (Value.bool (decide (k = 1)))), (34, (Value.bool (decide (k = 2)))), (43, (Value.bool (decide (k = 6)))), (58, (Value.bool (decide (k = 3))))]) ⟨rfl, rfl, rfl, rfl, rfl, rfl, rfl, rfl, rfl, rfl, rfl, trivial⟩
                refine block_n ?_
                refine then_n ?_
                exact ⟨_, hF.sub ⟨rfl, rfl, rfl, rfl, rfl, trivial⟩, (by first | exact (decide_eq_true (by omega)).symm | exact (decide_eq_false (by omega)).symm), ⟨hC, hib1, lob1, hb1, trivial⟩⟩
              · have hdec_ : decide ((ks.length : Int) = 2) = false := decide_eq_false hl2
                have hdec_hl2 := hdec_
                refine wlg rfl (d_bool (c := false) (d_eql rfl rfl) (hdec_hl2)) rfl hF (fun ac hF => ?_)
                refine wl (d_pick (b := true) rfl rfl) rfl hF (fun ac hF => ?_)
                refine wl (d_assign rfl) rfl hF (fun ac hF => ?_)
                refine wl_nil ?_
                have hF := hF.sub (L' := [(0, (Value.agg #[(Value.int .i64 k), (Value.int .i64 nm), (Value.slice ad ks.length cap)])), (1, (Value.int .i64 (d : Int))), (2, (Value.pointer (some ⟨b1, 0, none⟩))), (4, (Value.int .i64 0)), (5, (Value.bool false)), (6, (Value.bool false)), (14, (Value.int .i64 k)), (15, (Value.bool (decide (k = 1)))), (34, (Value.bool (decide (k = 2)))), (43, (Value.bool (decide (k = 6)))), (58, (Value.bool (decide (k = 3))))]) ⟨rfl, rfl, rfl, rfl, rfl, rfl, rfl, rfl, rfl, rfl, rfl, trivial⟩
                refine block_n ?_
                refine then_n ?_
                exact ⟨_, hF.sub ⟨rfl, rfl, rfl, rfl, rfl, trivial⟩, (by first | exact (decide_eq_true (by omega)).symm | exact (decide_eq_false (by omega)).symm), ⟨hC, hib1, lob1, hb1, trivial⟩⟩
            · have hdec_ : decide ((d : Int) ≤ 100) = false := decide_eq_false hdd
              have hdec_hdd := hdec_
              rw [hdec_] at hF
              refine wl (d_move rfl) rfl hF (fun ac hF => ?_)
              refine wl (d_move rfl) rfl hF (fun ac hF => ?_)
              refine wlgs (c := false) rfl rfl rfl hF (fun ac hF => ?_)
              refine wlgs (c := false) rfl rfl rfl hF (fun ac hF => ?_)
              refine wlgs (c := false) rfl rfl rfl hF (fun ac hF => ?_)
              refine wlgs (c := false) rfl rfl rfl hF (fun ac hF => ?_)
              refine wl (d_pick (b := false) rfl rfl) rfl hF (fun ac hF => ?_)
              refine wl (d_assign rfl) rfl hF (fun ac hF => ?_)
              refine wl_nil ?_
              have hF := hF.sub (L' := [(0, (Value.agg #[(Value.int .i64 k), (Value.int .i64 nm), (Value.slice ad ks.length cap)])), (1, (Value.int .i64 (d : Int))), (2, (Value.pointer (some ⟨b1, 0, none⟩))), (4, (Value.int .i64 0)), (5, (Value.bool false)), (6, (Value.bool false)), (14, (Value.int .i64 k)), (15, (Value.bool (decide (k = 1)))), (34, (Value.bool (decide (k = 2)))), (43, (Value.bool (decide (k = 6)))), (58, (Value.bool (decide (k = 3))))]) ⟨rfl, rfl, rfl, rfl, rfl, rfl, rfl, rfl, rfl, rfl, rfl, trivial⟩
              refine block_n ?_
              refine then_n ?_
              exact ⟨_, hF.sub ⟨rfl, rfl, rfl, rfl, rfl, trivial⟩, (by first | exact (decide_eq_true (by omega)).symm | exact (decide_eq_false (by omega)).symm), ⟨hC, hib1, lob1, hb1, trivial⟩⟩
          · have hc8 := of_decide_eq_false h
            clear h
            refine wp_region_lit ?_
            refine wl (d_assign rfl) rfl hF (fun ac hF => ?_)
            refine wl_nil ?_
            have hF := hF.sub (L' := [(0, (Value.agg #[(Value.int .i64 k), (Value.int .i64 nm), (Value.slice ad ks.length cap)])), (1, (Value.int .i64 (d : Int))), (2, (Value.pointer (some ⟨b1, 0, none⟩))), (4, (Value.int .i64 0)), (5, (Value.bool false)), (6, (Value.bool false)), (14, (Value.int .i64 k)), (15, (Value.bool (decide (k = 1)))), (34, (Value.bool (decide (k = 2)))), (43, (Value.bool (decide (k = 6)))), (58, (Value.bool (decide (k = 3))))]) ⟨rfl, rfl, rfl, rfl, rfl, rfl, rfl, rfl, rfl, rfl, rfl, trivial⟩
            refine block_n ?_
            refine then_n ?_
            exact ⟨_, hF.sub ⟨rfl, rfl, rfl, rfl, rfl, trivial⟩, (by first | exact (decide_eq_true (by omega)).symm | exact (decide_eq_false (by omega)).symm), ⟨hC, hib1, lob1, hb1, trivial⟩⟩
        · have hc7 := of_decide_eq_false h
          clear h
          refine wp_seq ?_
          refine wp_region_lit ?_
          refine wl (d_eql rfl rfl) rfl hF (fun ac hF => ?_)
          refine wl (d_assign rfl) rfl hF (fun ac hF => ?_)
          refine wl_nil ?_
          have hF := hF.sub (L' := [(0, (Value.agg #[(Value.int .i64 k), (Value.int .i64 nm), (Value.slice ad ks.length cap)])), (1, (Value.int .i64 (d : Int))), (2, (Value.pointer (some ⟨b1, 0, none⟩))), (4, (Value.int .i64 0)), (5, (Value.bool false)), (6, (Value.bool (decide ((d : Int) ≤ 100)))), (14, (Value.int .i64 k)), (15, (Value.bool (decide (k = 1)))), (34, (Value.bool (decide (k = 2)))), (43, (Value.bool (decide (k = 6)))), (58, (Value.bool (decide (k = 4))))]) ⟨rfl, rfl, rfl, rfl, rfl, rfl, rfl, rfl, rfl, rfl, rfl, trivial⟩
          refine then_n ?_
          refine wp_if hF rfl (fun h => ?_) (fun h => ?_)
          · have hc9 := of_decide_eq_true h
            clear h
            refine wp_skip ?_
            refine then_n ?_
            refine wp_if hF rfl (fun h => ?_) (fun h => ?_)
            · have hc10 := of_decide_eq_true h
              clear h
              refine wp_region_lit ?_
              by_cases hdd : (d : Int) ≤ 100
              · have hdec_ : decide ((d : Int) ≤ 100) = true := decide_eq_true hdd
                have hdec_hdd := hdec_
                rw [hdec_] at hF
                refine wl (d_move rfl) rfl hF (fun ac hF => ?_)
                refine wl (d_move rfl) rfl hF (fun ac hF => ?_)
                refine wlg rfl (d_fieldAddrQ Tryd.underlying26 (m := 0) sz24 rfl rfl rfl) rfl hF (fun ac hF => ?_)
                refine wlg rfl (d_load1 Tryd.underlying24 rfl rfl (hb1 2 _ rfl)) rfl hF (fun ac hF => ?_)
                refine wlg rfl (d_len_slice Tryd.underlying24 rfl) rfl hF (fun ac hF => ?_)
                by_cases hl2 : (ks.length : Int) = 2
                · have hdec_ : decide ((ks.length : Int) = 2) = true := decide_eq_true hl2
                  have hdec_hl2 := hdec_
                  refine wlg rfl (d_bool (c := true) (d_eql rfl rfl) (hdec_hl2)) rfl hF (fun ac hF => ?_)
                  refine wl (d_pick (b := true) rfl rfl) rfl hF (fun ac hF => ?_)
                  refine wl (d_assign rfl) rfl hF (fun ac hF => ?_)
                  refine wl_nil ?_
                  have hF := hF.sub (L' := [(0, (Value.agg #[(Value.int .i64 k), (Value.int .i64 nm), (Value.slice ad ks.length cap)])), (1, (Value.int .i64 (d : Int))), (2, (Value.pointer (some ⟨b1, 0, none⟩))), (4, (Value.int .i64 0)), (5, (Value.bool false)), (6, (Value.bool true)), (14, (Value.int .i64 k)), (15, (Value.bool (decide (k = 1)))), (34, (Value.bool (decide (k = 2)))), (43, (Value.bool (decide (k = 6)))), (58, (Value.bool (decide (k = 4))))]) ⟨rfl, rfl, rfl, rfl, rfl, rfl, rfl, rfl, rfl, rfl, rfl, trivial⟩
                  refine block_n ?_
                  refine then_n ?_
                  exact ⟨_, hF.sub ⟨rfl, rfl, rfl, rfl, rfl, trivial⟩, (by first | exact (decide_eq_true (by omega)).symm | exact (decide_eq_false (by omega)).symm), ⟨hC, hib1, lob1, hb1, trivial⟩⟩
                · have hdec_ : decide ((ks.length : Int) = 2) = false := decide_eq_false hl2
                  have hdec_hl2 := hdec_
                  refine wlg rfl (d_bool (c := false) (d_eql rfl rfl) (hdec_hl2)) rfl hF (fun ac hF => ?_)
                  refine wl (d_pick (b := true) rfl rfl) rfl hF (fun ac hF => ?_)
                  refine wl (d_assign rfl) rfl hF (fun ac hF => ?_)
                  refine wl_nil ?_
                  have hF := hF.sub (L' := [(0, (Value.agg #[(Value.int .i64 k), (Value.int .i64 nm), (Value.slice ad ks.length cap)])), (1, (Value.int .i64 (d : Int))), (2, (Value.pointer (some ⟨b1, 0, none⟩))), (4, (Value.int .i64 0)), (5, (Value.bool false)), (6, (Value.bool false)), (14, (Value.int .i64 k)), (15, (Value.bool (decide (k = 1)))), (34, (Value.bool (decide (k = 2)))), (43, (Value.bool (decide (k = 6)))), (58, (Value.bool (decide (k = 4))))]) ⟨rfl, rfl, rfl, rfl, rfl, rfl, rfl, rfl, rfl, rfl, rfl, trivial⟩
                  refine block_n ?_
                  refine then_n ?_
                  exact ⟨_, hF.sub ⟨rfl, rfl, rfl, rfl, rfl, trivial⟩, (by first | exact (decide_eq_true (by omega)).symm | exact (decide_eq_false (by omega)).symm), ⟨hC, hib1, lob1, hb1, trivial⟩⟩
              · have hdec_ : decide ((d : Int) ≤ 100) = false := decide_eq_false hdd
                have hdec_hdd := hdec_
                rw [hdec_] at hF
                refine wl (d_move rfl) rfl hF (fun ac hF => ?_)
                refine wl (d_move rfl) rfl hF (fun ac hF => ?_)
                refine wlgs (c := false) rfl rfl rfl hF (fun ac hF => ?_)
                refine wlgs (c := false) rfl rfl rfl hF (fun ac hF => ?_)
                refine wlgs (c := false) rfl rfl rfl hF (fun ac hF => ?_)
                refine wlgs (c := false) rfl rfl rfl hF (fun ac hF => ?_)
                refine wl (d_pick (b := false) rfl rfl) rfl hF (fun ac hF => ?_)
                refine wl (d_assign rfl) rfl hF (fun ac hF => ?_)
                refine wl_nil ?_
                have hF := hF.sub (L' := [(0, (Value.agg #[(Value.int .i64 k), (Value.int .i64 nm), (Value.slice ad ks.length cap)])), (1, (Value.int .i64 (d : Int))), (2, (Value.pointer (some ⟨b1, 0, none⟩))), (4, (Value.int .i64 0)), (5, (Value.bool false)), (6, (Value.bool false)), (14, (Value.int .i64 k)), (15, (Value.bool (decide (k = 1)))), (34, (Value.bool (decide (k = 2)))), (43, (Value.bool (decide (k = 6)))), (58, (Value.bool (decide (k = 4))))]) ⟨rfl, rfl, rfl, rfl, rfl, rfl, rfl, rfl, rfl, rfl, rfl, trivial⟩
                refine block_n ?_
                refine then_n ?_
                exact ⟨_, hF.sub ⟨rfl, rfl, rfl, rfl, rfl, trivial⟩, (by first | exact (decide_eq_true (by omega)).symm | exact (decide_eq_false (by omega)).symm), ⟨hC, hib1, lob1, hb1, trivial⟩⟩
            · have hc10 := of_decide_eq_false h
              clear h
              refine wp_region_lit ?_
              refine wl (d_assign rfl) rfl hF (fun ac hF => ?_)
              refine wl_nil ?_
              have hF := hF.sub (L' := [(0, (Value.agg #[(Value.int .i64 k), (Value.int .i64 nm), (Value.slice ad ks.length cap)])), (1, (Value.int .i64 (d : Int))), (2, (Value.pointer (some ⟨b1, 0, none⟩))), (4, (Value.int .i64 0)), (5, (Value.bool false)), (6, (Value.bool false)), (14, (Value.int .i64 k)), (15, (Value.bool (decide (k = 1)))), (34, (Value.bool (decide (k = 2)))), (43, (Value.bool (decide (k = 6)))), (58, (Value.bool (decide (k = 4))))]) ⟨rfl, rfl, rfl, rfl, rfl, rfl, rfl, rfl, rfl, rfl, rfl, trivial⟩
              refine block_n ?_
              refine then_n ?_
              exact ⟨_, hF.sub ⟨rfl, rfl, rfl, rfl, rfl, trivial⟩, (by first | exact (decide_eq_true (by omega)).symm | exact (decide_eq_false (by omega)).symm), ⟨hC, hib1, lob1, hb1, trivial⟩⟩
          · have hc9 := of_decide_eq_false h
            clear h
            refine wp_seq ?_
            refine wp_region_lit ?_
            refine wl (d_eql rfl rfl) rfl hF (fun ac hF => ?_)
            refine wl (d_assign rfl) rfl hF (fun ac hF => ?_)
            refine wl_nil ?_
            have hF := hF.sub (L' := [(0, (Value.agg #[(Value.int .i64 k), (Value.int .i64 nm), (Value.slice ad ks.length cap)])), (1, (Value.int .i64 (d : Int))), (2, (Value.pointer (some ⟨b1, 0, none⟩))), (4, (Value.int .i64 0)), (5, (Value.bool false)), (6, (Value.bool (decide ((d : Int) ≤ 100)))), (14, (Value.int .i64 k)), (15, (Value.bool (decide (k = 1)))), (34, (Value.bool (decide (k = 2)))), (43, (Value.bool (decide (k = 6)))), (58, (Value.bool (decide (k = 5))))]) ⟨rfl, rfl, rfl, rfl, rfl, rfl, rfl, rfl, rfl, rfl, rfl, trivial⟩
            refine then_n ?_
            refine wp_if hF rfl (fun h => ?_) (fun h => ?_)
            · have hc11 := of_decide_eq_true h
              clear h
              refine wp_skip ?_
              refine then_n ?_
              refine wp_if hF rfl (fun h => ?_) (fun h => ?_)
              · have hc12 := of_decide_eq_true h
                clear h
                refine wp_region_lit ?_
                by_cases hdd : (d : Int) ≤ 100
                · have hdec_ : decide ((d : Int) ≤ 100) = true := decide_eq_true hdd
                  have hdec_hdd := hdec_
                  rw [hdec_] at hF
                  refine wl (d_move rfl) rfl hF (fun ac hF => ?_)
                  refine wl (d_move rfl) rfl hF (fun ac hF => ?_)
                  refine wlg rfl (d_fieldAddrQ Tryd.underlying26 (m := 0) sz24 rfl rfl rfl) rfl hF (fun ac hF => ?_)
                  refine wlg rfl (d_load1 Tryd.underlying24 rfl rfl (hb1 2 _ rfl)) rfl hF (fun ac hF => ?_)
                  refine wlg rfl (d_len_slice Tryd.underlying24 rfl) rfl hF (fun ac hF => ?_)
                  by_cases hl2 : (ks.length : Int) = 2
                  · have hdec_ : decide ((ks.length : Int) = 2) = true := decide_eq_true hl2
                    have hdec_hl2 := hdec_
                    refine wlg rfl (d_bool (c := true) (d_eql rfl rfl) (hdec_hl2)) rfl hF (fun ac hF => ?_)
                    refine wl (d_pick (b := true) rfl rfl) rfl hF (fun ac hF => ?_)
                    refine wl (d_assign rfl) rfl hF (fun ac hF => ?_)
                    refine wl_nil ?_
                    have hF := hF.sub (L' := [(0, (Value.agg #[(Value.int .i64 k), (Value.int .i64 nm), (Value.slice ad ks.length cap)])), (1, (Value.int .i64 (d : Int))), (2, (Value.pointer (some ⟨b1, 0, none⟩))), (4, (Value.int .i64 0)), (5, (Value.bool false)), (6, (Value.bool true)), (14, (Value.int .i64 k)), (15, (Value.bool (decide (k = 1)))), (34, (Value.bool (decide (k = 2)))), (43, (Value.bool (decide (k = 6)))), (58, (Value.bool (decide (k = 5))))]) ⟨rfl, rfl, rfl, rfl, rfl, rfl, rfl, rfl, rfl, rfl, rfl, trivial⟩
                    refine block_n ?_
                    refine then_n ?_
                    exact ⟨_, hF.sub ⟨rfl, rfl, rfl, rfl, rfl, trivial⟩, (by first | exact (decide_eq_true (by omega)).symm | exact (decide_eq_false (by omega)).symm), ⟨hC, hib1, lob1, hb1, trivial⟩⟩
                  · have hdec_ : decide ((ks.length : Int) = 2) = false := decide_eq_false hl2
                    have hdec_hl2 := hdec_
                    refine wlg rfl (d_bool (c := false) (d_eql rfl rfl) (hdec_hl2)) rfl hF (fun ac hF => ?_)
                    refine wl (d_pick (b := true) rfl rfl) rfl hF (fun ac hF => ?_)
                    refine wl (d_assign rfl) rfl hF (fun ac hF => ?_)
                    refine wl_nil ?_
                    have hF := hF.sub (L' := [(0, (Value.agg #[(Value.int .i64 k), (Value.int .i64 nm), (Value.slice ad ks.length cap)])), (1, (Value.int .i64 (d : Int))), (2, (Value.pointer (some ⟨b1, 0, none⟩))), (4, (Value.int .i64 0)), (5, (Value.bool false)), (6, (Value.bool false)), (14, (Value.int .i64 k)), (15, (Value.bool (decide (k = 1)))), (34, (Value.bool (decide (k = 2)))), (43, (Value.bool (decide (k = 6)))), (58, (Value.bool (decide (k = 5))))]) ⟨rfl, rfl, rfl, rfl, rfl, rfl, rfl, rfl, rfl, rfl, rfl, trivial⟩
                    refine block_n ?_
                    refine then_n ?_
                    exact ⟨_, hF.sub ⟨rfl, rfl, rfl, rfl, rfl, trivial⟩, (by first | exact (decide_eq_true (by omega)).symm | exact (decide_eq_false (by omega)).symm), ⟨hC, hib1, lob1, hb1, trivial⟩⟩
                · have hdec_ : decide ((d : Int) ≤ 100) = false := decide_eq_false hdd
                  have hdec_hdd := hdec_
                  rw [hdec_] at hF
                  refine wl (d_move rfl) rfl hF (fun ac hF => ?_)
                  refine wl (d_move rfl) rfl hF (fun ac hF => ?_)
                  refine wlgs (c := false) rfl rfl rfl hF (fun ac hF => ?_)
                  refine wlgs (c := false) rfl rfl rfl hF (fun ac hF => ?_)
                  refine wlgs (c := false) rfl rfl rfl hF (fun ac hF => ?_)
                  refine wlgs (c := false) rfl rfl rfl hF (fun ac hF => ?_)
                  refine wl (d_pick (b := false) rfl rfl) rfl hF (fun ac hF => ?_)
                  refine wl (d_assign rfl) rfl hF (fun ac hF => ?_)
                  refine wl_nil ?_
                  have hF := hF.sub (L' := [(0, (Value.agg #[(Value.int .i64 k), (Value.int .i64 nm), (Value.slice ad ks.length cap)])), (1, (Value.int .i64 (d : Int))), (2, (Value.pointer (some ⟨b1, 0, none⟩))), (4, (Value.int .i64 0)), (5, (Value.bool false)), (6, (Value.bool false)), (14, (Value.int .i64 k)), (15, (Value.bool (decide (k = 1)))), (34, (Value.bool (decide (k = 2)))), (43, (Value.bool (decide (k = 6)))), (58, (Value.bool (decide (k = 5))))]) ⟨rfl, rfl, rfl, rfl, rfl, rfl, rfl, rfl, rfl, rfl, rfl, trivial⟩
                  refine block_n ?_
                  refine then_n ?_
                  exact ⟨_, hF.sub ⟨rfl, rfl, rfl, rfl, rfl, trivial⟩, (by first | exact (decide_eq_true (by omega)).symm | exact (decide_eq_false (by omega)).symm), ⟨hC, hib1, lob1, hb1, trivial⟩⟩
              · have hc12 := of_decide_eq_false h
                clear h
                refine wp_region_lit ?_
                refine wl (d_assign rfl) rfl hF (fun ac hF => ?_)
                refine wl_nil ?_
                have hF := hF.sub (L' := [(0, (Value.agg #[(Value.int .i64 k), (Value.int .i64 nm), (Value.slice ad ks.length cap)])), (1, (Value.int .i64 (d : Int))), (2, (Value.pointer (some ⟨b1, 0, none⟩))), (4, (Value.int .i64 0)), (5, (Value.bool false)), (6, (Value.bool false)), (14, (Value.int .i64 k)), (15, (Value.bool (decide (k = 1)))), (34, (Value.bool (decide (k = 2)))), (43, (Value.bool (decide (k = 6)))), (58, (Value.bool (decide (k = 5))))]) ⟨rfl, rfl, rfl, rfl, rfl, rfl, rfl, rfl, rfl, rfl, rfl, trivial⟩
                refine block_n ?_
                refine then_n ?_
                exact ⟨_, hF.sub ⟨rfl, rfl, rfl, rfl, rfl, trivial⟩, (by first | exact (decide_eq_true (by omega)).symm | exact (decide_eq_false (by omega)).symm), ⟨hC, hib1, lob1, hb1, trivial⟩⟩
            · have hc11 := of_decide_eq_false h
              clear h
              refine wp_seq ?_
              refine wp_region_lit ?_
              refine wl (d_eql rfl rfl) rfl hF (fun ac hF => ?_)
              refine wl (d_assign rfl) rfl hF (fun ac hF => ?_)
              refine wl_nil ?_
              have hF := hF.sub (L' := [(0, (Value.agg #[(Value.int .i64 k), (Value.int .i64 nm), (Value.slice ad ks.length cap)])), (1, (Value.int .i64 (d : Int))), (2, (Value.pointer (some ⟨b1, 0, none⟩))), (4, (Value.int .i64 0)), (5, (Value.bool false)), (6, (Value.bool (decide ((d : Int) ≤ 100)))), (14, (Value.int .i64 k)), (15, (Value.bool (decide (k = 1)))), (34, (Value.bool (decide (k = 2)))), (43, (Value.bool (decide (k = 6)))), (58, (Value.bool (decide (k = 7))))]) ⟨rfl, rfl, rfl, rfl, rfl, rfl, rfl, rfl, rfl, rfl, rfl, trivial⟩
              refine then_n ?_
              refine wp_if hF rfl (fun h => ?_) (fun h => ?_)
              · have hc13 := of_decide_eq_true h
                clear h
                refine wp_skip ?_
                refine then_n ?_
                refine wp_if hF rfl (fun h => ?_) (fun h => ?_)
                · have hc14 := of_decide_eq_true h
                  clear h
                  refine wp_region_lit ?_
                  by_cases hdd : (d : Int) ≤ 100
                  · have hdec_ : decide ((d : Int) ≤ 100) = true := decide_eq_true hdd
                    have hdec_hdd := hdec_
                    rw [hdec_] at hF
                    refine wl (d_move rfl) rfl hF (fun ac hF => ?_)
                    refine wl (d_move rfl) rfl hF (fun ac hF => ?_)
                    refine wlg rfl (d_fieldAddrQ Tryd.underlying26 (m := 0) sz24 rfl rfl rfl) rfl hF (fun ac hF => ?_)
                    refine wlg rfl (d_load1 Tryd.underlying24 rfl rfl (hb1 2 _ rfl)) rfl hF (fun ac hF => ?_)
                    refine wlg rfl (d_len_slice Tryd.underlying24 rfl) rfl hF (fun ac hF => ?_)
                    by_cases hl2 : (ks.length : Int) = 2
                    · have hdec_ : decide ((ks.length : Int) = 2) = true := decide_eq_true hl2
                      have hdec_hl2 := hdec_
                      refine wlg rfl (d_bool (c := true) (d_eql rfl rfl) (hdec_hl2)) rfl hF (fun ac hF => ?_)
                      refine wl (d_pick (b := true) rfl rfl) rfl hF (fun ac hF => ?_)
                      refine wl (d_assign rfl) rfl hF (fun ac hF => ?_)
                      refine wl_nil ?_
                      have hF := hF.sub (L' := [(0, (Value.agg #[(Value.int .i64 k), (Value.int .i64 nm), (Value.slice ad ks.length cap)])), (1, (Value.int .i64 (d : Int))), (2, (Value.pointer (some ⟨b1, 0, none⟩))), (4, (Value.int .i64 0)), (5, (Value.bool false)), (6, (Value.bool true)), (14, (Value.int .i64 k)), (15, (Value.bool (decide (k = 1)))), (34, (Value.bool (decide (k = 2)))), (43, (Value.bool (decide (k = 6)))), (58, (Value.bool (decide (k = 7))))]) ⟨rfl, rfl, rfl, rfl, rfl, rfl, rfl, rfl, rfl, rfl, rfl, trivial⟩
                      refine block_n ?_
                      refine then_n ?_
                      exact ⟨_, hF.sub ⟨rfl, rfl, rfl, rfl, rfl, trivial⟩, (by first | exact (decide_eq_true (by omega)).symm | exact (decide_eq_false (by omega)).symm), ⟨hC, hib1, lob1, hb1, trivial⟩⟩
                    · have hdec_ : decide ((ks.length : Int) = 2) = false := decide_eq_false hl2
                      have hdec_hl2 := hdec_
                      refine wlg rfl (d_bool (c := false) (d_eql rfl rfl) (hdec_hl2)) rfl hF (fun ac hF => ?_)
                      refine wl (d_pick (b := true) rfl rfl) rfl hF (fun ac hF => ?_)
                      refine wl (d_assign rfl) rfl hF (fun ac hF => ?_)
                      refine wl_nil ?_
                      have hF := hF.sub (L' := [(0, (Value.agg #[(Value.int .i64 k), (Value.int .i64 nm), (Value.slice ad ks.length cap)])), (1, (Value.int .i64 (d : Int))), (2, (Value.pointer (some ⟨b1, 0, none⟩))), (4, (Value.int .i64 0)), (5, (Value.bool false)), (6, (Value.bool false)), (14, (Value.int .i64 k)), (15, (Value.bool (decide (k = 1)))), (34, (Value.bool (decide (k = 2)))), (43, (Value.bool (decide (k = 6)))), (58, (Value.bool (decide (k = 7))))]) ⟨rfl, rfl, rfl, rfl, rfl, rfl, rfl, rfl, rfl, rfl, rfl, trivial⟩
                      refine block_n ?_
                      refine then_n ?_
                      exact ⟨_, hF.sub ⟨rfl, rfl, rfl, rfl, rfl, trivial⟩, (by first | exact (decide_eq_true (by omega)).symm | exact (decide_eq_false (by omega)).symm), ⟨hC, hib1, lob1, hb1, trivial⟩⟩
                  · have hdec_ : decide ((d : Int) ≤ 100) = false := decide_eq_false hdd
                    have hdec_hdd := hdec_
                    rw [hdec_] at hF
                    refine wl (d_move rfl) rfl hF (fun ac hF => ?_)
                    refine wl (d_move rfl) rfl hF (fun ac hF => ?_)
                    refine wlgs (c := false) rfl rfl rfl hF (fun ac hF => ?_)
                    refine wlgs (c := false) rfl rfl rfl hF (fun ac hF => ?_)
                    refine wlgs (c := false) rfl rfl rfl hF (fun ac hF => ?_)
                    refine wlgs (c := false) rfl rfl rfl hF (fun ac hF => ?_)
                    refine wl (d_pick (b := false) rfl rfl) rfl hF (fun ac hF => ?_)
                    refine wl (d_assign rfl) rfl hF (fun ac hF => ?_)
                    refine wl_nil ?_
                    have hF := hF.sub (L' := [(0, (Value.agg #[(Value.int .i64 k), (Value.int .i64 nm), (Value.slice ad ks.length cap)])), (1, (Value.int .i64 (d : Int))), (2, (Value.pointer (some ⟨b1, 0, none⟩))), (4, (Value.int .i64 0)), (5, (Value.bool false)), (6, (Value.bool false)), (14, (Value.int .i64 k)), (15, (Value.bool (decide (k = 1)))), (34, (Value.bool (decide (k = 2)))), (43, (Value.bool (decide (k = 6)))), (58, (Value.bool (decide (k = 7))))]) ⟨rfl, rfl, rfl, rfl, rfl, rfl, rfl, rfl, rfl, rfl, rfl, trivial⟩
                    refine block_n ?_
                    refine then_n ?_
                    exact ⟨_, hF.sub ⟨rfl, rfl, rfl, rfl, rfl, trivial⟩, (by first | exact (decide_eq_true (by omega)).symm | exact (decide_eq_false (by omega)).symm), ⟨hC, hib1, lob1, hb1, trivial⟩⟩
                · have hc14 := of_decide_eq_false h
                  clear h
                  refine wp_region_lit ?_
                  refine wl (d_assign rfl) rfl hF (fun ac hF => ?_)
                  refine wl_nil ?_
                  have hF := hF.sub (L' := [(0, (Value.agg #[(Value.int .i64 k), (Value.int .i64 nm), (Value.slice ad ks.length cap)])), (1, (Value.int .i64 (d : Int))), (2, (Value.pointer (some ⟨b1, 0, none⟩))), (4, (Value.int .i64 0)), (5, (Value.bool false)), (6, (Value.bool false)), (14, (Value.int .i64 k)), (15, (Value.bool (decide (k = 1)))), (34, (Value.bool (decide (k = 2)))), (43, (Value.bool (decide (k = 6)))), (58, (Value.bool (decide (k = 7))))]) ⟨rfl, rfl, rfl, rfl, rfl, rfl, rfl, rfl, rfl, rfl, rfl, trivial⟩
                  refine block_n ?_
                  refine then_n ?_
                  exact ⟨_, hF.sub ⟨rfl, rfl, rfl, rfl, rfl, trivial⟩, (by first | exact (decide_eq_true (by omega)).symm | exact (decide_eq_false (by omega)).symm), ⟨hC, hib1, lob1, hb1, trivial⟩⟩
              · have hc13 := of_decide_eq_false h
                clear h
                refine wp_seq ?_
                refine wp_region_lit ?_
                refine wl (d_eql rfl rfl) rfl hF (fun ac hF => ?_)
                refine wl (d_assign rfl) rfl hF (fun ac hF => ?_)
                refine wl_nil ?_
                have hF := hF.sub (L' := [(0, (Value.agg #[(Value.int .i64 k), (Value.int .i64 nm), (Value.slice ad ks.length cap)])), (1, (Value.int .i64 (d : Int))), (2, (Value.pointer (some ⟨b1, 0, none⟩))), (4, (Value.int .i64 0)), (5, (Value.bool false)), (6, (Value.bool (decide ((d : Int) ≤ 100)))), (14, (Value.int .i64 k)), (15, (Value.bool (decide (k = 1)))), (34, (Value.bool (decide (k = 2)))), (43, (Value.bool (decide (k = 6)))), (58, (Value.bool (decide (k = 8))))]) ⟨rfl, rfl, rfl, rfl, rfl, rfl, rfl, rfl, rfl, rfl, rfl, trivial⟩
                refine then_n ?_
                refine wp_if hF rfl (fun h => ?_) (fun h => ?_)
                · have hc15 := of_decide_eq_true h
                  clear h
                  refine wp_skip ?_
                  refine then_n ?_
                  refine wp_if hF rfl (fun h => ?_) (fun h => ?_)
                  · have hc16 := of_decide_eq_true h
                    clear h
                    refine wp_region_lit ?_
                    by_cases hdd : (d : Int) ≤ 100
                    · have hdec_ : decide ((d : Int) ≤ 100) = true := decide_eq_true hdd
                      have hdec_hdd := hdec_
                      rw [hdec_] at hF
                      refine wl (d_move rfl) rfl hF (fun ac hF => ?_)
                      refine wl (d_move rfl) rfl hF (fun ac hF => ?_)
                      refine wlg rfl (d_fieldAddrQ Tryd.underlying26 (m := 0) sz24 rfl rfl rfl) rfl hF (fun ac hF => ?_)
                      refine wlg rfl (d_load1 Tryd.underlying24 rfl rfl (hb1 2 _ rfl)) rfl hF (fun ac hF => ?_)
                      refine wlg rfl (d_len_slice Tryd.underlying24 rfl) rfl hF (fun ac hF => ?_)
                      by_cases hl2 : (ks.length : Int) = 2
                      · have hdec_ : decide ((ks.length : Int) = 2) = true := decide_eq_true hl2
                        have hdec_hl2 := hdec_
                        refine wlg rfl (d_bool (c := true) (d_eql rfl rfl) (hdec_hl2)) rfl hF (fun ac hF => ?_)
                        refine wl (d_pick (b := true) rfl rfl) rfl hF (fun ac hF => ?_)
                        refine wl (d_assign rfl) rfl hF (fun ac hF => ?_)
                        refine wl_nil ?_
                        have hF := hF.sub (L' := [(0, (Value.agg #[(Value.int .i64 k), (Value.int .i64 nm), (Value.slice ad ks.length cap)])), (1, (Value.int .i64 (d : Int))), (2, (Value.pointer (some ⟨b1, 0, none⟩))), (4, (Value.int .i64 0)), (5, (Value.bool false)), (6, (Value.bool true)), (14, (Value.int .i64 k)), (15, (Value.bool (decide (k = 1)))), (34, (Value.bool (decide (k = 2)))), (43, (Value.bool (decide (k = 6)))), (58, (Value.bool (decide (k = 8))))]) ⟨rfl, rfl, rfl, rfl, rfl, rfl, rfl, rfl, rfl, rfl, rfl, trivial⟩
                        refine block_n ?_
                        refine then_n ?_
                        exact ⟨_, hF.sub ⟨rfl, rfl, rfl, rfl, rfl, trivial⟩, (by first | exact (decide_eq_true (by omega)).symm | exact (decide_eq_false (by omega)).symm), ⟨hC, hib1, lob1, hb1, trivial⟩⟩
                      · have hdec_ : decide ((ks.length : Int) = 2) = false := decide_eq_false hl2
                        have hdec_hl2 := hdec_
                        refine wlg rfl (d_bool (c := false) (d_eql rfl rfl) (hdec_hl2)) rfl hF (fun ac hF => ?_)
                        refine wl (d_pick (b := true) rfl rfl) rfl hF (fun ac hF => ?_)
                        refine wl (d_assign rfl) rfl hF (fun ac hF => ?_)
                        refine wl_nil ?_
                        have hF := hF.sub (L' := [(0, (Value.agg #[(Value.int .i64 k), (Value.int .i64 nm), (Value.slice ad ks.length cap)])), (1, (Value.int .i64 (d : Int))), (2, (Value.pointer (some ⟨b1, 0, none⟩))), (4, (Value.int .i64 0)), (5, (Value.bool false)), (6, (Value.bool false)), (14, (Value.int .i64 k)), (15, (Value.bool (decide (k = 1)))), (34, (Value.bool (decide (k = 2)))), (43, (Value.bool (decide (k = 6)))), (58, (Value.bool (decide (k = 8))))]) ⟨rfl, rfl, rfl, rfl, rfl, rfl, rfl, rfl, rfl, rfl, rfl, trivial⟩
                        refine block_n ?_
                        refine then_n ?_
                        exact ⟨_, hF.sub ⟨rfl, rfl, rfl, rfl, rfl, trivial⟩, (by first | exact (decide_eq_true (by omega)).symm | exact (decide_eq_false (by omega)).symm), ⟨hC, hib1, lob1, hb1, trivial⟩⟩
                    · have hdec_ : decide ((d : Int) ≤ 100) = false := decide_eq_false hdd
                      have hdec_hdd := hdec_
                      rw [hdec_] at hF
                      refine wl (d_move rfl) rfl hF (fun ac hF => ?_)
                      refine wl (d_move rfl) rfl hF (fun ac hF => ?_)
                      refine wlgs (c := false) rfl rfl rfl hF (fun ac hF => ?_)
                      refine wlgs (c := false) rfl rfl rfl hF (fun ac hF => ?_)
                      refine wlgs (c := false) rfl rfl rfl hF (fun ac hF => ?_)
                      refine wlgs (c := false) rfl rfl rfl hF (fun ac hF => ?_)
                      refine wl (d_pick (b := false) rfl rfl) rfl hF (fun ac hF => ?_)
                      refine wl (d_assign rfl) rfl hF (fun ac hF => ?_)
                      refine wl_nil ?_
                      have hF := hF.sub (L' := [(0, (Value.agg #[(Value.int .i64 k), (Value.int .i64 nm), (Value.slice ad ks.length cap)])), (1, (Value.int .i64 (d : Int))), (2, (Value.pointer (some ⟨b1, 0, none⟩))), (4, (Value.int .i64 0)), (5, (Value.bool false)), (6, (Value.bool false)), (14, (Value.int .i64 k)), (15, (Value.bool (decide (k = 1)))), (34, (Value.bool (decide (k = 2)))), (43, (Value.bool (decide (k = 6)))), (58, (Value.bool (decide (k = 8))))]) ⟨rfl, rfl, rfl, rfl, rfl, rfl, rfl, rfl, rfl, rfl, rfl, trivial⟩
                      refine block_n ?_
                      refine then_n ?_
                      exact ⟨_, hF.sub ⟨rfl, rfl, rfl, rfl, rfl, trivial⟩, (by first | exact (decide_eq_true (by omega)).symm | exact (decide_eq_false (by omega)).symm), ⟨hC, hib1, lob1, hb1, trivial⟩⟩
                  · have hc16 := of_decide_eq_false h
                    clear h
                    refine wp_region_lit ?_
                    refine wl (d_assign rfl) rfl hF (fun ac hF => ?_)
                    refine wl_nil ?_
                    have hF := hF.sub (L' := [(0, (Value.agg #[(Value.int .i64 k), (Value.int .i64 nm), (Value.slice ad ks.length cap)])), (1, (Value.int .i64 (d : Int))), (2, (Value.pointer (some ⟨b1, 0, none⟩))), (4, (Value.int .i64 0)), (5, (Value.bool false)), (6, (Value.bool false)), (14, (Value.int .i64 k)), (15, (Value.bool (decide (k = 1)))), (34, (Value.bool (decide (k = 2)))), (43, (Value.bool (decide (k = 6)))), (58, (Value.bool (decide (k = 8))))]) ⟨rfl, rfl, rfl, rfl, rfl, rfl, rfl, rfl, rfl, rfl, rfl, trivial⟩
                    refine block_n ?_
                    refine then_n ?_
                    exact ⟨_, hF.sub ⟨rfl, rfl, rfl, rfl, rfl, trivial⟩, (by first | exact (decide_eq_true (by omega)).symm | exact (decide_eq_false (by omega)).symm), ⟨hC, hib1, lob1, hb1, trivial⟩⟩
                · have hc15 := of_decide_eq_false h
                  clear h
                  refine wp_region_lit ?_
                  refine wl (d_eql rfl rfl) rfl hF (fun ac hF => ?_)
                  refine wl (d_assign rfl) rfl hF (fun ac hF => ?_)
                  refine wl_nil ?_
                  have hF := hF.sub (L' := [(0, (Value.agg #[(Value.int .i64 k), (Value.int .i64 nm), (Value.slice ad ks.length cap)])), (1, (Value.int .i64 (d : Int))), (2, (Value.pointer (some ⟨b1, 0, none⟩))), (4, (Value.int .i64 0)), (5, (Value.bool false)), (6, (Value.bool (decide ((d : Int) ≤ 100)))), (14, (Value.int .i64 k)), (15, (Value.bool (decide (k = 1)))), (34, (Value.bool (decide (k = 2)))), (43, (Value.bool (decide (k = 6)))), (58, (Value.bool (decide (k = 9))))]) ⟨rfl, rfl, rfl, rfl, rfl, rfl, rfl, rfl, rfl, rfl, rfl, trivial⟩
                  refine then_n ?_
                  refine wp_if hF rfl (fun h => ?_) (fun h => ?_)
                  · have hc17 := of_decide_eq_true h
                    clear h
                    refine wp_region_lit ?_
                    by_cases hdd : (d : Int) ≤ 100
                    · have hdec_ : decide ((d : Int) ≤ 100) = true := decide_eq_true hdd
                      have hdec_hdd := hdec_
                      rw [hdec_] at hF
                      refine wl (d_move rfl) rfl hF (fun ac hF => ?_)
                      refine wl (d_move rfl) rfl hF (fun ac hF => ?_)
                      refine wlg rfl (d_fieldAddrQ Tryd.underlying26 (m := 0) sz24 rfl rfl rfl) rfl hF (fun ac hF => ?_)
                      refine wlg rfl (d_load1 Tryd.underlying24 rfl rfl (hb1 2 _ rfl)) rfl hF (fun ac hF => ?_)
                      refine wlg rfl (d_len_slice Tryd.underlying24 rfl) rfl hF (fun ac hF => ?_)
                      by_cases hl2 : (ks.length : Int) = 2
                      · have hdec_ : decide ((ks.length : Int) = 2) = true := decide_eq_true hl2
                        have hdec_hl2 := hdec_
                        refine wlg rfl (d_bool (c := true) (d_eql rfl rfl) (hdec_hl2)) rfl hF (fun ac hF => ?_)
                        refine wl (d_pick (b := true) rfl rfl) rfl hF (fun ac hF => ?_)
                        refine wl (d_assign rfl) rfl hF (fun ac hF => ?_)
                        refine wl_nil ?_
                        have hF := hF.sub (L' := [(0, (Value.agg #[(Value.int .i64 k), (Value.int .i64 nm), (Value.slice ad ks.length cap)])), (1, (Value.int .i64 (d : Int))), (2, (Value.pointer (some ⟨b1, 0, none⟩))), (4, (Value.int .i64 0)), (5, (Value.bool false)), (6, (Value.bool true)), (14, (Value.int .i64 k)), (15, (Value.bool (decide (k = 1)))), (34, (Value.bool (decide (k = 2)))), (43, (Value.bool (decide (k = 6)))), (58, (Value.bool (decide (k = 9))))]) ⟨rfl, rfl, rfl, rfl, rfl, rfl, rfl, rfl, rfl, rfl, rfl, trivial⟩
                        refine block_n ?_
                        refine then_n ?_
                        exact ⟨_, hF.sub ⟨rfl, rfl, rfl, rfl, rfl, trivial⟩, (by first | exact (decide_eq_true (by omega)).symm | exact (decide_eq_false (by omega)).symm), ⟨hC, hib1, lob1, hb1, trivial⟩⟩
                      · have hdec_ : decide ((ks.length : Int) = 2) = false := decide_eq_false hl2
                        have hdec_hl2 := hdec_
                        refine wlg rfl (d_bool (c := false) (d_eql rfl rfl) (hdec_hl2)) rfl hF (fun ac hF => ?_)
                        refine wl (d_pick (b := true) rfl rfl) rfl hF (fun ac hF => ?_)
                        refine wl (d_assign rfl) rfl hF (fun ac hF => ?_)
                        refine wl_nil ?_
                        have hF := hF.sub (L' := [(0, (Value.agg #[(Value.int .i64 k), (Value.int .i64 nm), (Value.slice ad ks.length cap)])), (1, (Value.int .i64 (d : Int))), (2, (Value.pointer (some ⟨b1, 0, none⟩))), (4, (Value.int .i64 0)), (5, (Value.bool false)), (6, (Value.bool false)), (14, (Value.int .i64 k)), (15, (Value.bool (decide (k = 1)))), (34, (Value.bool (decide (k = 2)))), (43, (Value.bool (decide (k = 6)))), (58, (Value.bool (decide (k = 9))))]) ⟨rfl, rfl, rfl, rfl, rfl, rfl, rfl, rfl, rfl, rfl, rfl, trivial⟩
                        refine block_n ?_
                        refine then_n ?_
                        exact ⟨_, hF.sub ⟨rfl, rfl, rfl, rfl, rfl, trivial⟩, (by first | exact (decide_eq_true (by omega)).symm | exact (decide_eq_false (by omega)).symm), ⟨hC, hib1, lob1, hb1, trivial⟩⟩
                    · have hdec_ : decide ((d : Int) ≤ 100) = false := decide_eq_false hdd
                      have hdec_hdd := hdec_
                      rw [hdec_] at hF
                      refine wl (d_move rfl) rfl hF (fun ac hF => ?_)
                      refine wl (d_move rfl) rfl hF (fun ac hF => ?_)
                      refine wlgs (c := false) rfl rfl rfl hF (fun ac hF => ?_)
                      refine wlgs (c := false) rfl rfl rfl hF (fun ac hF => ?_)
                      refine wlgs (c := false) rfl rfl rfl hF (fun ac hF => ?_)
                      refine wlgs (c := false) rfl rfl rfl hF (fun ac hF => ?_)
                      refine wl (d_pick (b := false) rfl rfl) rfl hF (fun ac hF => ?_)
                      refine wl (d_assign rfl) rfl hF (fun ac hF => ?_)
                      refine wl_nil ?_
                      have hF := hF.sub (L' := [(0, (Value.agg #[(Value.int .i64 k), (Value.int .i64 nm), (Value.slice ad ks.length cap)])), (1, (Value.int .i64 (d : Int))), (2, (Value.pointer (some ⟨b1, 0, none⟩))), (4, (Value.int .i64 0)), (5, (Value.bool false)), (6, (Value.bool false)), (14, (Value.int .i64 k)), (15, (Value.bool (decide (k = 1)))), (34, (Value.bool (decide (k = 2)))), (43, (Value.bool (decide (k = 6)))), (58, (Value.bool (decide (k = 9))))]) ⟨rfl, rfl, rfl, rfl, rfl, rfl, rfl, rfl, rfl, rfl, rfl, trivial⟩
                      refine block_n ?_
                      refine then_n ?_
                      exact ⟨_, hF.sub ⟨rfl, rfl, rfl, rfl, rfl, trivial⟩, (by first | exact (decide_eq_true (by omega)).symm | exact (decide_eq_false (by omega)).symm), ⟨hC, hib1, lob1, hb1, trivial⟩⟩
                  · have hc17 := of_decide_eq_false h
                    clear h
                    refine wp_region_lit ?_
                    refine wl (d_assign rfl) rfl hF (fun ac hF => ?_)
                    refine wl_nil ?_
                    have hF := hF.sub (L' := [(0, (Value.agg #[(Value.int .i64 k), (Value.int .i64 nm), (Value.slice ad ks.length cap)])), (1, (Value.int .i64 (d : Int))), (2, (Value.pointer (some ⟨b1, 0, none⟩))), (4, (Value.int .i64 0)), (5, (Value.bool false)), (6, (Value.bool false)), (14, (Value.int .i64 k)), (15, (Value.bool (decide (k = 1)))), (34, (Value.bool (decide (k = 2)))), (43, (Value.bool (decide (k = 6)))), (58, (Value.bool (decide (k = 9))))]) ⟨rfl, rfl, rfl, rfl, rfl, rfl, rfl, rfl, rfl, rfl, rfl, trivial⟩
                    refine block_n ?_
                    refine then_n ?_
                    exact ⟨_, hF.sub ⟨rfl, rfl, rfl, rfl, rfl, trivial⟩, (by first | exact (decide_eq_true (by omega)).symm | exact (decide_eq_false (by omega)).symm), ⟨hC, hib1, lob1, hb1, trivial⟩⟩

theorem rsize_calls (t : Tm) : ∀ (vs : List Value) (n : Nat) (w : World), IsT w [] t vs → n ≤ 1000 → Calls Tryd.prog 49 (List.toArray [.agg vs.toArray, .int .i64 n]) w (Ret fun v w' => ∃ (m : Nat) (ok : Bool), v = .tuple #[.int .i64 (m : Int), .bool ok] ∧ rsz t n = (m, ok) ∧ Gr w w') := by
  refine Tm.ind (p := fun t => ∀ (vs : List Value) (n : Nat) (w : World), IsT w [] t vs → n ≤ 1000 → Calls Tryd.prog 49 (List.toArray [.agg vs.toArray, .int .i64 n]) w (Ret fun v w' => ∃ (m : Nat) (ok : Bool), v = .tuple #[.int .i64 (m : Int), .bool ok] ∧ rsz t n = (m, ok) ∧ Gr w w')) ?_ t
  intro k nm ks ih vs n w ht hn
  simp only [IsT] at ht
  obtain ⟨sl, xs, rfl, h1, h2⟩ := ht
  obtain ⟨ad, cap, rfl, h3⟩ := h1.form
  exact rsize_step ih n hn w (fun h => by obtain ⟨b, o, e, _, h4⟩ := h3 h; exact ⟨b, o, e, h4⟩) h2
end Go.Mi.Term
