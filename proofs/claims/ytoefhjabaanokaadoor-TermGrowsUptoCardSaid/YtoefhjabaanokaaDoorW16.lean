/- Walks: what functions of term return. -/
import Derived.Test.YtoefhjabaanokaaDoorB6
import Derived.Test.YtoefhjabaanokaaDoorB7
set_option linter.unusedSimpArgs false
set_option linter.unusedVariables false
set_option linter.unnecessarySimpa false
namespace Go.Mi.Term
open Go.Mi Go.Proofs Go.RowKit
set_option linter.unusedVariables false
theorem pl118 (w : World) : ∀ fs, Tryd.prog.underlying 118 = some (.struct fs) → (fs.mapM fun f => (do pure (f.offset, ← sizeOf f.type) : Sem (Nat × Nat))).run Tryd.prog w = .ok #[(0, 1), (1, 1)] w := by
 intro fs h
 rw [Tryd.underlying118] at h
 cases h
 obtain ⟨i2, h2, e2⟩ := Option.map_eq_some_iff.1 sz110
 obtain ⟨i3, h3, e3⟩ := Option.map_eq_some_iff.1 sz114
 simp [sizeOf, typeInfo, h2, h3, e2, e3]

set_option maxRecDepth 100000 in
set_option maxHeartbeats 4000000 in
theorem opens_calls {T0 : World → Prop} {nb : Nat} (hT : ∀ w w', Below nb w w' → T0 w → T0 w') (hjoin : JoinOk) (hclone : CloneOk) {W : Wd} {f g : Nat} {known : List Tm} {r : Rw} {ad : Option Addr} {cap : Nat} {xs : List Value} (hopens : opens W f g known = some r) (w0 : World) (hnb : nb ≤ w0.heap.size) (hw0 : T0 w0) (hkl : known.length ≤ 1099511627000) (hrl : r.l.length ≤ 1099511627000) (hwr : ∀ t, t ∈ known → may t = true → WrT T0 t) (hfit0 : AllFit (firstL known ⟨[], []⟩))
 (hsl : 0 < known.length → ∃ b o, ad = some ⟨b, o, none⟩ ∧ b ∉ ([] : List Nat) ∧ At w0 b o xs) (hks : IsTs w0 [] known xs) : Calls Tryd.prog 44 (List.toArray [.agg #[.bool W.dh, .bool W.kem], .slice ad known.length cap]) w0 (Ret fun v w' => ∃ br bm lv, v = .pointer (some ⟨br, 0, none⟩) ∧ RwIs w' w0.heap.size [br, bm] br bm lv r ∧ w0.heap.size ≤ br ∧ w0.heap.size ≤ bm ∧ Gr w0 w') := by
 refine calls_of Tryd.func44 rfl Tryd.ntmps44 rfl fun ac hF => ?_
 have hC : Ch [] w0 w0 := Ch.refl _ _
 have hF := hF.sub (L' := [(0, (Value.agg #[(vB W.dh), (vB W.kem)])), (1, (Value.slice ad known.length cap))]) ⟨rfl, rfl, trivial⟩
 refine wp_seq ?_
 refine wp_region_lit ?_
 refine wlR (ok_box rfl) rfl hF ?_
 rintro _ w ac ⟨b1, rfl, hnb_⟩ hF
 have hch_ : Ch [] _ w := hnb_.ch
 have lo_ := hnb_.lo hC.size
 have hC := hC.trans' hch_ (fun z hz => .inr (absurd hz (by simp)))
 have hib1 : b1 < w.heap.size := hnb_.lt
 have lob1 : w0.heap.size ≤ b1 := lo_
 have hb1 : At w b1 0 [(vB W.dh), (vB W.kem)] := hnb_.at
 refine wl (d_assign rfl) rfl hF (fun ac hF => ?_)
 refine wl_nil ?_
 refine then_n ?_
 refine wp_seq ?_
 refine wp_region_lit ?_
 refine wlR (ok_makeMap) rfl hF ?_
 rintro _ w ac ⟨bm, rfl, hbn_, hbm, hch0_⟩ hF
 have hch_ : Ch [] _ w := hch0_
 have lo_ : w0.heap.size ≤ bm := by rw [hbn_]; exact hC.size
 have hC := hC.trans' hch_ (fun z hz => .inr (absurd hz (by simp)))
 have hib1 := hch_.lt hib1
 have hb1 := hb1.mv hch_ (by first | (simp; done) | assumption | (simp <;> omega))
 have hibm : bm < w.heap.size := hbm.lt
 have lobm : w0.heap.size ≤ bm := lo_
 refine wl (d_buildS (cells := #[vN, (Value.map (some bm))]) Tryd.underlying118 z118 (fun w => pl118 w _ Tryd.underlying118) rfl (by simp [Instr.fill, Value.cells])) rfl hF (fun ac hF => ?_)
 refine wlR (ok_box rfl) rfl hF ?_
 rintro _ w ac ⟨b2, rfl, hnb_⟩ hF
 have hch_ : Ch [] _ w := hnb_.ch
 have lo_ := hnb_.lo hC.size
 have ne_b1_b2 := hnb_.gt hib1
 have ne_bm_b2 := hnb_.gt hibm
 have hC := hC.trans' hch_ (fun z hz => .inr (absurd hz (by simp)))
 have hib1 := hch_.lt hib1
 have hb1 := hb1.mv hch_ (by first | (simp; done) | assumption | (simp <;> omega))
 have hibm := hch_.lt hibm
 have hbm := hbm.mv hch_ (by simp <;> omega)
 have hib2 : b2 < w.heap.size := hnb_.lt
 have lob2 : w0.heap.size ≤ b2 := lo_
 have hb2 : w.heap[b2]? = some (.cells #[vN, (Value.map (some bm))] 118 (0, 0)) := hnb_.blk
 have ne_b1_b2 : b1 < b2 := ne_b1_b2
 have ne_bm_b2 : bm < b2 := ne_bm_b2
 refine wl (d_assign rfl) rfl hF (fun ac hF => ?_)
 refine wl_nil ?_
 have hrw : RwIs w w0.heap.size [b2, bm] b2 bm vN (firstL (known.take 0) ⟨[], []⟩) := ⟨hb2, hbm, ⟨[], Own.nil _ _ _ _, by simp [IsNs, firstL]⟩, by simp [oblk], by simp [oblk], by omega⟩
 refine then_n ?_
 refine wp_seq ?_
 refine wp_seq ?_
 refine wp_region_lit ?_
 refine wl (d_move rfl) rfl hF (fun ac hF => ?_)
 refine wl (d_len_slice Tryd.underlying24 rfl) rfl hF (fun ac hF => ?_)
 refine wl (d_move rfl) rfl hF (fun ac hF => ?_)
 refine wl_nil ?_
 refine then_n ?_
 refine wp_block ?_
 refine wp_loop_k (fun fu_ ac w => ∃ (i : Nat) (lv : Value), fu_ = known.length - i ∧ (i ≤ known.length) ∧ (b1 ∉ b2 :: bm :: oblk lv) ∧ Frm ac 66 [(2, (vp b1)), (5, (vp b2)), (15, (Value.slice ad known.length cap)), (16, (vI (known.length : Int))), (17, (vI (i : Int)))] ∧ (Ch [] w0 w) ∧ (b1 < w.heap.size) ∧ (w0.heap.size ≤ b1) ∧ (At w b1 0 [(vB W.dh), (vB W.kem)]) ∧ (w0.heap.size ≤ bm) ∧ (w0.heap.size ≤ b2) ∧ (b1 < b2) ∧ (bm < b2) ∧ (RwIs w w0.heap.size ([b2, bm]) b2 bm lv (firstL (known.take i) ⟨[], []⟩)) ∧ True) _ ⟨0, Value.slice none 0 0, rfl, (by omega), (by simp [oblk] <;> omega), hF.sub ⟨rfl, rfl, rfl, rfl, rfl, trivial⟩, ⟨hC, hib1, lob1, hb1, lobm, lob2, ne_b1_b2, ne_bm_b2, hrw, trivial⟩⟩ ?_
 rintro _ ac w ⟨i, lv, rfl, hle, hb1n, hF, ⟨hC, hib1, lob1, hb1, lobm, lob2, ne_b1_b2, ne_bm_b2, hrw, _⟩⟩
 refine wp_seq ?_
 refine wp_region_lit ?_
 refine wl (d_lss rfl rfl) rfl hF (fun ac hF => ?_)
 refine wl_nil ?_
 refine then_n ?_
 refine wp_seq ?_
 refine wp_if hF rfl (fun h => ?_) (fun h => ?_)
 ·have hlt := of_decide_eq_true h
  clear h
  obtain ⟨b0, o0, hae, hb0, hat0⟩ := hsl (by omega)
  obtain ⟨t1, hi⟩ : ∃ t, known[i]? = some t := ⟨_, List.getElem?_eq_getElem (by omega)⟩
  have hmem : t1 ∈ known := List.mem_of_getElem? hi
  obtain ⟨a1, ha1, hat1⟩ := hks.at hat0 i t1 hi
  obtain ⟨k1, nm1, ad1, l1, cap1, rfl⟩ := ha1.form
  refine wp_skip ?_
  refine then_n ?_
  refine wp_seq ?_
  refine wp_block ?_
  refine wp_seq ?_
  refine wp_region_lit ?_
  refine wl (d_ixSm (b := b0) (o := o0) Tryd.underlying24 sz26 (by rw [← hae]; rfl) rfl rfl (by omega)) rfl hF (fun ac hF => ?_)
  refine wl (d_loadC Tryd.underlying26 rfl sz26 rfl (hat1.mv hC (by simp)) rfl) rfl hF (fun ac hF => ?_)
  refine wlR (ok_alloc z26) rfl hF ?_
  rintro _ w ac ⟨b3, rfl, hnb_⟩ hF
  have hch_ : Ch [] _ w := hnb_.ch
  have lo_ := hnb_.lo hC.size
  have ne_b1_b3 := hnb_.gt hib1
  have hrw0_ := hrw
  have hlt_ : b2 < b3 ∧ bm < b3 := ⟨hnb_.gt hrw.lt, hnb_.gt hrw.met.lt⟩
  have hlv_ : ∀ y, y ∈ oblk lv → y < b3 := fun y hy => hnb_.gt (hrw.lo y hy).2
  have hC := hC.trans' hch_ (fun z hz => .inr (absurd hz (by simp)))
  have hib1 := hch_.lt hib1
  have hb1 := hb1.mv hch_ (by first | (simp; done) | assumption | (simp <;> omega))
  have hib3 : b3 < w.heap.size := hnb_.lt
  have lob3 : w0.heap.size ≤ b3 := lo_
  have hb3 : w.heap[b3]? = some (.cells #[(vI 0), (vI 0), vN] 26 (0, 0)) := hnb_.blk
  have ne_b1_b3 : b1 < b3 := ne_b1_b3
  have hrw : RwIs w w0.heap.size (b3 :: [b2, bm]) b2 bm lv (firstL (known.take i) ⟨[], []⟩) := hrw0_.mvx hnb_.ch (by simp) (by simp) (by simp) (by simp) (fun x hx => by rcases List.mem_cons.1 hx with rfl | hx; exact .inr (Nat.le_of_eq hnb_.num.symm); exact .inl hx)
  refine wl0R (ok_storeA (c' := #[(vI k1), (vI nm1), (Value.slice ad1 l1 cap1)]) sz26 rfl rfl rfl (fun v hv => by simp at hv; rcases hv with rfl | rfl | rfl <;> rfl) hb3 rfl) hF ?_
  rintro w ac hu_ hF
  have hch_ : Ch [b3] _ w := hu_.ch
  have hC := hC.trans' hch_ (fun z hz => .inr ((by simp at hz; subst hz; assumption)))
  have hib1 := hch_.lt hib1
  have hb1 := hb1.mv hch_ (by first | (simp; done) | assumption | (simp <;> omega))
  have hrw := hrw.mv hch_ (fun y hy => by first | (simp at hy; done) | (simp at hy; subst hy; simp)) (by simp <;> omega) (by simp <;> omega) (fun y hy => by first | (simp; done) | (simp; intro h; subst h; have := hlv_ _ hy; omega))
  have hib3 := hch_.lt hib3
  have hb3 : w.heap[b3]? = some (.cells #[(vI k1), (vI nm1), (Value.slice ad1 l1 cap1)] 26 (0, 0)) := hu_.blk
  refine wl_nil ?_
  refine then_n ?_
  refine wp_seq ?_
  refine wp_region_lit ?_
  refine wl (d_loadC Tryd.underlying26 rfl sz26 rfl ((At.of_blk hb3)) rfl) rfl hF (fun ac hF => ?_)
  refine wlR (ok_call c42 rfl (May_calls (X := []) _ (IsT.mv hC (by simp) (fun x hx => .inl hx) t1 _ ha1))) rfl hF ?_
  rintro _ w ac ⟨rfl, hg_⟩ hF
  have hch_ : Ch [] _ w := Gr.ch hg_
  have hC := hC.trans' hch_ (fun z hz => .inr (absurd hz (by simp)))
  have hib1 := hch_.lt hib1
  have hb1 := hb1.mv hch_ (by first | (simp; done) | assumption | (simp <;> omega))
  have hrw := hrw.mv hch_ (fun y hy => by first | (simp at hy; done) | (simp at hy; subst hy; simp)) (by simp <;> omega) (by simp <;> omega) (fun y hy => by first | (simp; done) | (simp; intro h; subst h; have := hlv_ _ hy; omega))
  have hib3 := hch_.lt hib3
  have hb3 := Ch.blk0 hch_ hb3 (by simp <;> omega)
  refine wl_nil ?_
  refine then_n ?_
  refine wp_if hF rfl (fun h => ?_) (fun h => ?_)
  ·have hmay := h
   clear h
   have hxx0 : ∀ x, x ∈ oblk lv ++ (b3 :: [b2, bm]) → w0.heap.size ≤ x := fun x hx => by
    simp only [List.mem_append, List.mem_cons, List.not_mem_nil, or_false] at hx
    rcases hx with hx | rfl | rfl | rfl
    ·exact (hrw.lo x hx).1
    all_goals assumption
   have hxx1 : ∀ x, x ∈ oblk lv ++ (b3 :: [b2, bm]) → x < w.heap.size := fun x hx => by
    simp only [List.mem_append, List.mem_cons, List.not_mem_nil, or_false] at hx
    rcases hx with hx | rfl | rfl | rfl
    ·exact (hrw.lo x hx).2
    ·assumption
    ·exact hrw.lt
    ·exact hrw.met.lt
   refine wp_region_lit ?_
   refine wl (d_move rfl) rfl hF (fun ac hF => ?_)
   refine wl (d_loadC Tryd.underlying26 rfl sz26 rfl ((At.of_blk hb3)) rfl) rfl hF (fun ac hF => ?_)
   refine wlR (ok_call c46 rfl (nodeOf_calls hT hjoin t1 (hwr t1 hmem hmay) (oblk lv ++ (b3 :: [b2, bm])) _ _ (Nat.le_trans hnb hC.size) (hT _ _ (hC.below hnb (by simp)) hw0) hxx1 (IsT.mv (X' := oblk lv ++ (b3 :: [b2, bm])) hC (by simp) (fun x hx => .inr (hxx0 x hx)) t1 _ ha1))) rfl hF ?_
   rintro nv w ac ⟨hnv, hg_⟩ hF
   have hch_ : Ch [] _ w := Gr.ch hg_
   obtain ⟨bn, rfl, hbn, hnv⟩ := hnv.ptr
   have hC := hC.trans' hch_ (fun z hz => .inr (absurd hz (by simp)))
   have hib1 := hch_.lt hib1
   have hb1 := hb1.mv hch_ (by first | (simp; done) | assumption | (simp <;> omega))
   have hrw := hrw.mv hch_ (fun y hy => by first | (simp at hy; done) | (simp at hy; subst hy; simp)) (by simp <;> omega) (by simp <;> omega) (fun y hy => by first | (simp; done) | (simp; intro h; subst h; have := hlv_ _ hy; omega))
   have hib3 := hch_.lt hib3
   have hb3 := Ch.blk0 hch_ hb3 (by simp <;> omega)
   refine wlR (ok_call c79 rfl (add_calls (n := nrm t1) _ hC.size (by simp) (by simp) hrw hnv (by have := (firstL_len (known.take i) ⟨[], []⟩).2; simp at this; omega))) rfl hF ?_
   rintro _ w ac ⟨rfl, lv1, hto⟩ hF
   have hch_ : Ch (b2 :: bm :: oblk lv) _ w := hto.2.1
   have hrwlo := hrw.lo
   have hb1n := nin_to hto hib1 hb1n
   have hC := hC.trans' hch_ (fun z hz => .inr ((by simp at hz; rcases hz with rfl | rfl | hz; exact lob2; exact lobm; exact (hrwlo z hz).1)))
   have hib1 := hch_.lt hib1
   have hb1 := hb1.mv hch_ (by first | (simp; done) | assumption | (simp <;> omega))
   have hrw : RwIs w w0.heap.size (b3 :: [b2, bm]) b2 bm lv1 ((firstL (known.take i) ⟨[], []⟩).add (nrm t1)) := hto.1
   refine wl_nil ?_
   refine block_n ?_
   refine then_n ?_
   refine wp_region_lit ?_
   refine wl (d_add rfl rfl (wrap_i64 (by omega) (by omega))) rfl hF (fun ac hF => ?_)
   refine wl (d_move rfl) rfl hF (fun ac hF => ?_)
   refine wl_nil ?_
   refine then_n ?_
   refine ⟨_, ?_, i + 1, _, rfl, (by omega), hb1n, hF.sub ⟨rfl, rfl, rfl, rfl, rfl, trivial⟩, ⟨hC, hib1, lob1, hb1, lobm, lob2, ne_b1_b2, ne_bm_b2, (by rw [firstL_take hi, hmay]; exact hrw.mvx (Ch.refl [] _) (by simp) (by simp) (by simp) (by simp) (fun x hx => .inl (by simp at hx ⊢; simp [hx]))), trivial⟩⟩
   omega
  ·have hmay := h
   clear h
   refine wp_skip ?_
   refine block_n ?_
   refine then_n ?_
   refine wp_region_lit ?_
   refine wl (d_add rfl rfl (wrap_i64 (by omega) (by omega))) rfl hF (fun ac hF => ?_)
   refine wl (d_move rfl) rfl hF (fun ac hF => ?_)
   refine wl_nil ?_
   refine then_n ?_
   refine ⟨_, ?_, i + 1, _, rfl, (by omega), hb1n, hF.sub ⟨rfl, rfl, rfl, rfl, rfl, trivial⟩, ⟨hC, hib1, lob1, hb1, lobm, lob2, ne_b1_b2, ne_bm_b2, (by rw [firstL_take hi, hmay]; exact hrw.mvx (Ch.refl [] _) (by simp) (by simp) (by simp) (by simp) (fun x hx => .inl (by simp at hx ⊢; simp [hx]))), trivial⟩⟩
   omega
 ·have hlt := of_decide_eq_false h
  clear h
  have hi : i = known.length := by omega
  have hrw : RwIs w w0.heap.size [b2, bm] b2 bm lv (firstL known ⟨[], []⟩) := by have h_ := hrw; rw [hi, List.take_length] at h_; exact h_
  refine wp_exit ?_
  refine then_exit ?_
  refine then_exit ?_
  refine block_exit ?_
  refine then_n ?_
  refine wp_seq ?_
  refine wp_seq ?_
  refine wp_region_lit ?_
  refine wl (d_assign rfl) rfl hF (fun ac hF => ?_)
  refine wl_nil ?_
  refine then_n ?_
  refine wp_block ?_
  refine wp_loop_k (fun fu_ ac w => ∃ (fk : Nat) (wk : Int) (rk : Rw) (lvk : Value), fu_ = 0 + fk ∧ ((wk < (rk.l.length : Int) ∧ ∃ g, fk = g + 1 ∧ rounds W f g rk = some r) ∨ (fk = 0 ∧ wk = (rk.l.length : Int) ∧ rk = r)) ∧ (AllFit rk) ∧ (rk.l.length ≤ r.l.length) ∧ (b1 ∉ b2 :: bm :: oblk lvk) ∧ Frm ac 66 [(2, (vp b1)), (5, (vp b2)), (8, (vI wk))] ∧ (Ch [] w0 w) ∧ (b1 < w.heap.size) ∧ (w0.heap.size ≤ b1) ∧ (At w b1 0 [(vB W.dh), (vB W.kem)]) ∧ (w0.heap.size ≤ bm) ∧ (w0.heap.size ≤ b2) ∧ (b1 < b2) ∧ (bm < b2) ∧ (RwIs w w0.heap.size ([b2, bm]) b2 bm lvk rk) ∧ True) _ ⟨g + 1, -1, firstL known ⟨[], []⟩, lv, rfl, (.inl ⟨by omega, g, rfl, hopens⟩), hfit0, (rounds_len hopens), hb1n, hF.sub ⟨rfl, rfl, rfl, trivial⟩, ⟨hC, hib1, lob1, hb1, lobm, lob2, ne_b1_b2, ne_bm_b2, hrw, trivial⟩⟩ ?_
  rintro _ ac w ⟨fk, wk, rk, lvk, rfl, hs2, hfk, hrk, hb1n, hF, ⟨hC, hib1, lob1, hb1, lobm, lob2, ne_b1_b2, ne_bm_b2, hrw, _⟩⟩
  obtain ⟨xsk, hownk, hnsk⟩ := hrw.own
  refine wp_seq ?_
  refine wp_seq ?_
  refine wp_region_lit ?_
  refine wl (d_move rfl) rfl hF (fun ac hF => ?_)
  refine wl (d_move rfl) rfl hF (fun ac hF => ?_)
  refine wl (d_nil rfl) rfl hF (fun ac hF => ?_)
  refine wl (d_fieldAddrQ Tryd.underlying118 (m := 0) sz110 rfl rfl rfl) rfl hF (fun ac hF => ?_)
  refine wl (d_load1 Tryd.underlying110 rfl rfl ((At.of_blk hrw.st) 0 _ rfl)) rfl hF (fun ac hF => ?_)
  refine wl (d_lenOwn Tryd.underlying110 rfl hownk) rfl hF (fun ac hF => ?_)
  refine wl (d_lss rfl rfl) rfl hF (fun ac hF => ?_)
  refine wl_nil ?_
  refine then_n ?_
  refine wp_if hF rfl (fun h => ?_) (fun h => ?_)
  ·have hwk := of_decide_eq_true h
   clear h
   obtain ⟨g1, hfk1, hr2⟩ := (hs2.resolve_right (fun h => by omega)).2
   obtain ⟨g2, mf, r2, rfl, hopn0, halt⟩ := rounds_succ hr2
   have hr2r : r2.l.length ≤ r.l.length := by
    rcases halt with ⟨_, h2⟩ | ⟨_, h2⟩
    ·rw [h2]; exact Nat.le_refl _
    ·exact rounds_len h2
   refine wp_skip ?_
   refine then_n ?_
   refine wp_block ?_
   refine wp_seq ?_
   refine wp_region_lit ?_
   refine wl (d_move rfl) rfl hF (fun ac hF => ?_)
   refine wl (d_nil rfl) rfl hF (fun ac hF => ?_)
   refine wl (d_fieldAddrQ Tryd.underlying118 (m := 0) sz110 rfl rfl rfl) rfl hF (fun ac hF => ?_)
   refine wl (d_load1 Tryd.underlying110 rfl rfl ((At.of_blk hrw.st) 0 _ rfl)) rfl hF (fun ac hF => ?_)
   refine wl (d_lenOwn Tryd.underlying110 rfl hownk) rfl hF (fun ac hF => ?_)
   refine wl (d_assign rfl) rfl hF (fun ac hF => ?_)
   refine wl_nil ?_
   refine then_n ?_
   refine wp_seq ?_
   obtain ⟨A1_0, hA1_0⟩ : ∃ A : (Nat → Value) → World → Prop, A = fun _ w => (Ch [] w0 w) ∧ (b1 < w.heap.size) ∧ (w0.heap.size ≤ b1) ∧ (At w b1 0 [(vB W.dh), (vB W.kem)]) ∧ (w0.heap.size ≤ bm) ∧ (w0.heap.size ≤ b2) ∧ (b1 < b2) ∧ (bm < b2) ∧ (RwIs w w0.heap.size ([b2, bm]) b2 bm lvk rk) ∧ True := ⟨_, rfl⟩
   obtain ⟨A1_1, hA1_1⟩ : ∃ A : (Nat → Value) → World → Prop, A = fun H1 w => (Ch [] w0 w) ∧ (b1 < w.heap.size) ∧ (w0.heap.size ≤ b1) ∧ (At w b1 0 [(vB W.dh), (vB W.kem)]) ∧ (w0.heap.size ≤ bm) ∧ (w0.heap.size ≤ b2) ∧ (b1 < b2) ∧ (bm < b2) ∧ (RwIs w w0.heap.size ([b2, bm]) b2 bm lvk rk) ∧ (MapIs w (blk (H1 5)) rk.met) ∧ ((blk (H1 5)) < w.heap.size) ∧ (w0.heap.size ≤ (blk (H1 5))) ∧ (b2 < (blk (H1 5)) ∧ bm < (blk (H1 5)) ∧ ∀ y, y ∈ oblk lvk → y < (blk (H1 5))) ∧ (H1 5 = (Value.map (some (blk (H1 5))))) ∧ True := ⟨_, rfl⟩
   obtain ⟨A1_2, hA1_2⟩ : ∃ A : (Nat → Value) → World → Prop, A = fun H1 w => (Ch [] w0 w) ∧ (b1 < w.heap.size) ∧ (w0.heap.size ≤ b1) ∧ (At w b1 0 [(vB W.dh), (vB W.kem)]) ∧ (w0.heap.size ≤ bm) ∧ (w0.heap.size ≤ b2) ∧ (b1 < b2) ∧ (bm < b2) ∧ (RwIs w w0.heap.size ([b2, bm]) b2 bm lvk rk) ∧ (MapIs w (blk (H1 5)) rk.met) ∧ ((blk (H1 5)) < w.heap.size) ∧ (w0.heap.size ≤ (blk (H1 5))) ∧ (b2 < (blk (H1 5)) ∧ bm < (blk (H1 5)) ∧ ∀ y, y ∈ oblk lvk → y < (blk (H1 5))) ∧ (H1 5 = (Value.map (some (blk (H1 5))))) ∧ ((blk (H1 7)) < w.heap.size) ∧ (w0.heap.size ≤ (blk (H1 7))) ∧ (At w (blk (H1 7)) 0 [vN, (Value.map (some (blk (H1 5))))]) ∧ (b1 < (blk (H1 7))) ∧ ((blk (H1 5)) < (blk (H1 7))) ∧ (H1 7 = (vp (blk (H1 7)))) ∧ True := ⟨_, rfl⟩
   obtain ⟨A1_3, hA1_3⟩ : ∃ A : (Nat → Value) → World → Prop, A = fun H1 w => (Ch [] w0 w) ∧ (b1 < w.heap.size) ∧ (w0.heap.size ≤ b1) ∧ (At w b1 0 [(vB W.dh), (vB W.kem)]) ∧ (w0.heap.size ≤ bm) ∧ (w0.heap.size ≤ b2) ∧ (b1 < b2) ∧ (bm < b2) ∧ (MapIs w (blk (H1 5)) rk.met) ∧ ((blk (H1 5)) < w.heap.size) ∧ (w0.heap.size ≤ (blk (H1 5))) ∧ (b2 < (blk (H1 5)) ∧ bm < (blk (H1 5)) ∧ ∀ y, y ∈ oblk lvk → y < (blk (H1 5))) ∧ (H1 5 = (Value.map (some (blk (H1 5))))) ∧ ((blk (H1 7)) < w.heap.size) ∧ (w0.heap.size ≤ (blk (H1 7))) ∧ (At w (blk (H1 7)) 0 [vN, (Value.map (some (blk (H1 5))))]) ∧ (b1 < (blk (H1 7))) ∧ ((blk (H1 5)) < (blk (H1 7))) ∧ (H1 7 = (vp (blk (H1 7)))) ∧ (∃ bt, RdIs w w0.heap.size W (blk (H1 7)) (blk (H1 8)) bt ∧ ((blk (H1 5)) < bt ∧ (blk (H1 7)) < bt ∧ (blk (H1 5)) < (blk (H1 8)) ∧ (blk (H1 7)) < (blk (H1 8))) ∧ (b2 < bt ∧ bm < bt ∧ b2 < (blk (H1 8)) ∧ bm < (blk (H1 8)) ∧ b1 < bt) ∧ (∀ y, y ∈ oblk lvk → y < bt ∧ y < (blk (H1 8))) ∧ RwIs w w0.heap.size [bt, b2, bm] b2 bm lvk rk) ∧ (H1 8 = (vp (blk (H1 8)))) ∧ True := ⟨_, rfl⟩
   refine region_hist mo (fun p_ H_ w_ => (([A1_0, A1_1, A1_2, A1_3] : List ((Nat → Value) → World → Prop)).getD p_ (fun _ _ => True)) H_ w_) [5, 7, 8] (rows := [hr_ [] [(2, (vp b1))] [0, 1, 2] (Value.agg #[(vB W.dh), (vB W.kem)]), hr_ [] [(5, (vp b2))] [0] (vp b2), hr_ [(1, 41)] [] [0] (vp b2), hr_ [(2, 42)] [] [0] (vP b2 1), hr_ [(3, 43)] [] [0] (Value.map (some bm)), ⟨[(4, 44)], [], [0], [5], fun H1 => H1 5, fun H1 K_ h_ => by simp only [h_ 5 (by simp)]⟩, ⟨[(5, 45)], [], [1], [5], fun H1 => (Value.agg #[vN, (Value.map (some (blk (H1 5))))]), fun H1 K_ h_ => by simp only [h_ 5 (by simp)]⟩, ⟨[(6, 46)], [], [1], [7], fun H1 => H1 7, fun H1 K_ h_ => by simp only [h_ 7 (by simp)]⟩, ⟨[(0, 40), (7, 47)], [], [2], [8], fun H1 => H1 8, fun H1 K_ h_ => by simp only [h_ 8 (by simp)]⟩, ⟨[(8, 48)], [], [3], [8], fun H1 => (vp (blk (H1 8))), fun H1 K_ h_ => by simp only [h_ 8 (by simp)]⟩]) (by kernel_rfl) hF (fun H_ => ?_) ?_ ?_
   ·have hch_ := Ch.drew w
    have hfin_ : A1_0 H_ { w with drawn := w.drawn + 1 } := by rw [hA1_0]; exact ⟨hC.trans' hch_ (fun z hz => .inr (absurd hz (by simp))), hch_.lt hib1, lob1, hb1.mv hch_ (by first | (simp; done) | assumption | (simp <;> omega)), lobm, lob2, ne_b1_b2, ne_bm_b2, hrw.mv hch_ (fun y hy => by first | (simp at hy; done) | (simp at hy; subst hy; simp)) (by simp <;> omega) (by simp <;> omega) (fun y hy => by first | (simp; done) | (simp; intro h; subst h; have := hlv_ _ hy; omega)), trivial⟩
    exact hfin_
   ·refine ⟨?_, ?_, ?_, ?_, ?_, ?_, ?_, ?_, ?_, ?_, trivial⟩
    ·refine ⟨⟨rfl, trivial⟩, fun ph_ hp_ H1 w hW => ?_⟩
     rcases memN_or hp_ with rfl | hp_
     ·have hW0 := hW
      replace hW : A1_0 H1 w := hW
      rw [hA1_0] at hW
      obtain ⟨hC, hib1, lob1, hb1, lobm, lob2, ne_b1_b2, ne_bm_b2, hrw, _⟩ := hW
      exact Det.ohc rfl hW0 (d_loadC Tryd.underlying31 rfl sz31 rfl (hb1) rfl)
     rcases memN_or hp_ with rfl | hp_
     ·have hW0 := hW
      replace hW : A1_1 H1 w := hW
      rw [hA1_1] at hW
      obtain ⟨hC, hib1, lob1, hb1, lobm, lob2, ne_b1_b2, ne_bm_b2, hrw, hmetk, hibmk, lobmk, gtk, hv1_5, _⟩ := hW
      exact Det.ohc rfl hW0 (d_loadC Tryd.underlying31 rfl sz31 rfl (hb1) rfl)
     obtain rfl := memN_one hp_
     ·have hW0 := hW
      replace hW : A1_2 H1 w := hW
      rw [hA1_2] at hW
      obtain ⟨hC, hib1, lob1, hb1, lobm, lob2, ne_b1_b2, ne_bm_b2, hrw, hmetk, hibmk, lobmk, gtk, hv1_5, hib4, lob4, hb4, ne_b1_b4, gtb, hv1_7, _⟩ := hW
      exact Det.ohc rfl hW0 (d_loadC Tryd.underlying31 rfl sz31 rfl (hb1) rfl)
    ·exact HOb.pure ⟨rfl, trivial⟩ rfl rfl (fun _ _ => d_move rfl)
    ·exact HOb.pure trivial rfl rfl (fun _ _ => d_nil rfl)
    ·exact HOb.pure trivial rfl rfl (fun _ _ => d_fieldAddrQ Tryd.underlying118 (m := 0) sz114 rfl rfl rfl)
    ·exact HOb.fact hA1_0 trivial rfl rfl rfl rfl (fun H1 w ⟨_, _, _, _, _, _, _, _, hrw, _⟩ => d_load1 Tryd.underlying114 rfl rfl ((At.of_blk hrw.st) 1 _ rfl))
    ·refine ⟨trivial, fun ph_ hp_ H1 w hW => ?_⟩
     obtain rfl := memN_one hp_
     replace hW : A1_0 H1 w := hW
     rw [hA1_0] at hW
     obtain ⟨hC, hib1, lob1, hb1, lobm, lob2, ne_b1_b2, ne_bm_b2, hrw, _⟩ := hW
     refine Ok1.mono (ok_call c80 rfl (clone_calls hclone _ hrw.met)) ?_
     rintro _ w' ⟨bmk, rfl, hbmk_, hibmk, hmetk, hch0_⟩
     have hch_ : Ch [] _ w' := hch0_
     have lo_ : w0.heap.size ≤ bmk := by rw [hbmk_]; exact hC.size
     have gtk_ : b2 < bmk ∧ bm < bmk ∧ ∀ y, y ∈ oblk lvk → y < bmk := by rw [hbmk_]; exact ⟨hrw.lt, hrw.met.lt, fun y hy => (hrw.lo y hy).2⟩
     have hC := hC.trans' hch_ (fun z hz => .inr (absurd hz (by simp)))
     have hib1 := hch_.lt hib1
     have hb1 := hb1.mv hch_ (by first | (simp; done) | assumption | (simp <;> omega))
     have hrw := hrw.mv hch_ (fun y hy => by first | (simp at hy; done) | (simp at hy; subst hy; simp)) (by simp <;> omega) (by simp <;> omega) (fun y hy => by first | (simp; done) | (simp; intro h; subst h; have := hlv_ _ hy; omega))
     have lobmk : w0.heap.size ≤ bmk := lo_
     have gtk : b2 < bmk ∧ bm < bmk ∧ ∀ y, y ∈ oblk lvk → y < bmk := gtk_
     have hfin_ : A1_1 (updV H1 5 (Value.map (some bmk))) w' := by rw [hA1_1]; exact ⟨hC, hib1, lob1, hb1, lobm, lob2, ne_b1_b2, ne_bm_b2, hrw, hmetk, hibmk, lobmk, gtk, rfl, trivial⟩
     exact fin_ rfl ⟨hfin_, rfl⟩
    ·exact HOb.fact hA1_1 trivial rfl rfl rfl rfl (fun H1 w ⟨_, _, _, _, _, _, _, _, _, _, _, _, _, hv1_5, _⟩ => Det.sub (L' := [(45, (Value.map (some (blk (H1 5)))))]) ⟨congrArg some hv1_5, trivial⟩ (d_buildS (cells := #[vN, (Value.map (some (blk (H1 5))))]) Tryd.underlying118 z118 (fun w => pl118 w _ Tryd.underlying118) rfl (by simp [Instr.fill, Value.cells])))
    ·refine ⟨trivial, fun ph_ hp_ H1 w hW => ?_⟩
     obtain rfl := memN_one hp_
     replace hW : A1_1 H1 w := hW
     rw [hA1_1] at hW
     obtain ⟨hC, hib1, lob1, hb1, lobm, lob2, ne_b1_b2, ne_bm_b2, hrw, hmetk, hibmk, lobmk, gtk, hv1_5, _⟩ := hW
     refine Ok1.mono (ok_box rfl) ?_
     rintro _ w' ⟨b4, rfl, hnb_⟩
     have hch_ : Ch [] _ w' := hnb_.ch
     have lo_ := hnb_.lo hC.size
     have ne_b1_b4 := hnb_.gt hib1
     have gtb_ := hnb_.gt hibmk
     have hC := hC.trans' hch_ (fun z hz => .inr (absurd hz (by simp)))
     have hib1 := hch_.lt hib1
     have hb1 := hb1.mv hch_ (by first | (simp; done) | assumption | (simp <;> omega))
     have hrw := hrw.mv hch_ (fun y hy => by first | (simp at hy; done) | (simp at hy; subst hy; simp)) (by simp <;> omega) (by simp <;> omega) (fun y hy => by first | (simp; done) | (simp; intro h; subst h; have := hlv_ _ hy; omega))
     have hmetk := hmetk.mv hch_ (by simp <;> omega)
     have hibmk := hch_.lt hibmk
     have hib4 : b4 < w'.heap.size := hnb_.lt
     have lob4 : w0.heap.size ≤ b4 := lo_
     have hb4 : At w' b4 0 [vN, (Value.map (some (blk (H1 5))))] := hnb_.at
     have ne_b1_b4 : b1 < b4 := ne_b1_b4
     have gtb : (blk (H1 5)) < b4 := gtb_
     have hfin_ : A1_2 (updV H1 7 (vp b4)) w' := by rw [hA1_2]; exact ⟨hC, hib1, lob1, hb1, lobm, lob2, ne_b1_b2, ne_bm_b2, hrw, hmetk, hibmk, lobmk, gtk, hv1_5, hib4, lob4, hb4, ne_b1_b4, gtb, rfl, trivial⟩
     exact fin_ rfl ⟨hfin_, rfl⟩
    ·refine ⟨trivial, fun ph_ hp_ H1 w hW => ?_⟩
     obtain rfl := memN_one hp_
     replace hW : A1_2 H1 w := hW
     rw [hA1_2] at hW
     obtain ⟨hC, hib1, lob1, hb1, lobm, lob2, ne_b1_b2, ne_bm_b2, hrw, hmetk, hibmk, lobmk, gtk, hv1_5, hib4, lob4, hb4, ne_b1_b4, gtb, hv1_7, _⟩ := hW
     refine Ok1.sub (L' := [(40, (Value.agg #[(vB W.dh), (vB W.kem)])), (47, (vp (blk (H1 7))))]) ⟨rfl, congrArg some hv1_7, trivial⟩ (Ok1.mono (ok_call c43 rfl (ready_calls' _)) ?_)
     rintro _ w' ⟨bb, rfl, hrd_, hch0_⟩
     have hch_ : Ch [] _ w' := hch0_
     have hrd2_ : ∃ bt, RdIs w' w0.heap.size W (blk (H1 7)) bb bt ∧ ((blk (H1 5)) < bt ∧ (blk (H1 7)) < bt ∧ (blk (H1 5)) < bb ∧ (blk (H1 7)) < bb) ∧ (b2 < bt ∧ bm < bt ∧ b2 < bb ∧ bm < bb ∧ b1 < bt) ∧ (∀ y, y ∈ oblk lvk → y < bt ∧ y < bb) ∧ RwIs w' w0.heap.size [bt, b2, bm] b2 bm lvk rk := by
      obtain ⟨bt, h⟩ := hrd_
      have s1 := hC.size
      have s2 := h.lb
      have s3 := h.lt
      have s4 := hrw.lt
      have s5 := hrw.met.lt
      have s6 := hib1
      have s7 := hibmk
      have s8 := hib4
      exact ⟨bt, ⟨h.at', h.told, by omega, by omega, h.ne⟩, ⟨by omega, by omega, by omega, by omega⟩, ⟨by omega, by omega, by omega, by omega, by omega⟩, fun y hy => by have := (hrw.lo y hy).2; omega, hrw.mvx hch_ (by simp) (by simp) (by simp) (by simp) (fun x hx => by rcases List.mem_cons.1 hx with rfl | hx; exact .inr h.lt; exact .inl hx)⟩
     have hC := hC.trans' hch_ (fun z hz => .inr (absurd hz (by simp)))
     have hib1 := hch_.lt hib1
     have hb1 := hb1.mv hch_ (by first | (simp; done) | assumption | (simp <;> omega))
     have hmetk := hmetk.mv hch_ (by simp <;> omega)
     have hibmk := hch_.lt hibmk
     have hib4 := hch_.lt hib4
     have hb4 := hb4.mv hch_ (by simp <;> omega)
     have hrd : ∃ bt, RdIs w' w0.heap.size W (blk (H1 7)) bb bt ∧ ((blk (H1 5)) < bt ∧ (blk (H1 7)) < bt ∧ (blk (H1 5)) < bb ∧ (blk (H1 7)) < bb) ∧ (b2 < bt ∧ bm < bt ∧ b2 < bb ∧ bm < bb ∧ b1 < bt) ∧ (∀ y, y ∈ oblk lvk → y < bt ∧ y < bb) ∧ RwIs w' w0.heap.size [bt, b2, bm] b2 bm lvk rk := hrd2_
     have hfin_ : A1_3 (updV H1 8 (vp bb)) w' := by rw [hA1_3]; exact ⟨hC, hib1, lob1, hb1, lobm, lob2, ne_b1_b2, ne_bm_b2, hmetk, hibmk, lobmk, gtk, hv1_5, hib4, lob4, hb4, ne_b1_b4, gtb, hv1_7, hrd, rfl, trivial⟩
     exact fin_ rfl ⟨hfin_, rfl⟩
    ·exact HOb.fact hA1_3 trivial rfl rfl rfl rfl (fun H1 w ⟨_, _, _, _, _, _, _, _, _, _, _, _, _, _, _, _, _, _, _, _, hv1_8, _⟩ => Det.sub (L' := [(48, (vp (blk (H1 8))))]) ⟨congrArg some hv1_8, trivial⟩ (d_assign rfl))
   ·intro ac w H1 hW hF
    replace hW : A1_3 H1 w := hW
    rw [hA1_3] at hW
    obtain ⟨hC, hib1, lob1, hb1, lobm, lob2, ne_b1_b2, ne_bm_b2, hmetk, hibmk, lobmk, gtk, hv1_5, hib4, lob4, hb4, ne_b1_b4, gtb, hv1_7, hrd, hv1_8, _⟩ := hW
    clear hA1_0 A1_0 hA1_1 A1_1 hA1_2 A1_2 hA1_3 A1_3
    have hF := hF.sub (L' := [(2, (vp b1)), (5, (vp b2)), (8, (vI (rk.l.length : Int))), (9, (vp (blk (H1 8)))), (34, (vB (decide (wk < (rk.l.length : Int)))))]) ⟨rfl, rfl, rfl, rfl, rfl, trivial⟩
    clear hv1_5
    clear hv1_7
    clear hv1_8
    generalize (blk (H1 5)) = bmk at *
    generalize (blk (H1 7)) = b4 at *
    generalize (blk (H1 8)) = bb at *
    obtain ⟨bt, hrd, ⟨q1, q2, q3, q4⟩, ⟨q5, q6, q7, q8, q9⟩, q10, hrw⟩ := hrd
    have hbd : Bd w W rk.met bb bt b4 bmk (.slice none 0 0) := ⟨hrd.at', hb4, hmetk, hrd.ne, by omega, by omega⟩
    have htold := hrd.told
    have lobt := hrd.lt
    obtain ⟨xsk, hownk, hnsk⟩ := hrw.own
    have hats : ∀ g, g ∈ oblk lvk → At w g 0 xsk := fun g hg => own_at hownk hg
    have hxl : xsk.length = rk.l.length := by have := hownk.1; simpa using this
    have hform := fun (h : 0 < rk.l.length) => Own.form hownk h
    have hgne : ∀ g, g ∈ oblk lvk → g ≠ bt ∧ g ≠ b2 ∧ g ≠ bm := fun g hg => ⟨by have := (q10 g hg).1; omega, fun h => hrw.nr (h ▸ hg), fun h => hrw.nm (h ▸ hg)⟩
    have hne_bb := hrd.ne
    have hne_brk : b4 ≠ bt := by omega
    have hne_bmk : bmk ≠ bt := by omega
    obtain ⟨u1, u2, u3⟩ := gtk
    have hd1 : bb ∉ b2 :: bm :: oblk lvk := fun hm => by
     simp only [List.mem_cons] at hm
     rcases hm with hm | hm | hm
     ·omega
     ·omega
     ·have := (q10 _ hm).2; omega
    have hd2 : b4 ∉ b2 :: bm :: oblk lvk := fun hm => by
     simp only [List.mem_cons] at hm
     rcases hm with hm | hm | hm
     ·omega
     ·omega
     ·have := u3 _ hm; omega
    have hd3 : bmk ∉ b2 :: bm :: oblk lvk := fun hm => by
     simp only [List.mem_cons] at hm
     rcases hm with hm | hm | hm
     ·omega
     ·omega
     ·have := u3 _ hm; omega
    have hd4 : bt ∉ b2 :: bm :: oblk lvk := fun hm => by
     simp only [List.mem_cons] at hm
     rcases hm with hm | hm | hm
     ·omega
     ·omega
     ·have := (q10 _ hm).1; omega
    refine then_n ?_
    refine wp_seq ?_
    refine wp_region_lit ?_
    refine wl (d_move rfl) rfl hF (fun ac hF => ?_)
    refine wl (d_nil rfl) rfl hF (fun ac hF => ?_)
    refine wl (d_fieldAddrQ Tryd.underlying118 (m := 0) sz110 rfl rfl rfl) rfl hF (fun ac hF => ?_)
    refine wl (d_load1 Tryd.underlying110 rfl rfl ((At.of_blk hrw.st) 0 _ rfl)) rfl hF (fun ac hF => ?_)
    refine wl (d_move rfl) rfl hF (fun ac hF => ?_)
    refine wl (d_sliceOwn Tryd.underlying110 sz83 rfl rfl hownk) rfl hF (fun ac hF => ?_)
    refine wl (d_lenOwn Tryd.underlying110 rfl hownk) rfl hF (fun ac hF => ?_)
    refine wl (d_move rfl) rfl hF (fun ac hF => ?_)
    refine wl_nil ?_
    refine then_n ?_
    refine wp_block ?_
    refine wp_loop_k (fun fu_ ac w => ∃ (j : Nat) (mj : Told) (rj : Rw) (lvj : Value), fu_ = rk.l.length - j ∧ (j ≤ rk.l.length) ∧ (opnL W rk.met f (rk.l.drop j) mj rj = some (mf, r2)) ∧ (rk.l.length ≤ rj.l.length) ∧ (bb ∉ b2 :: bm :: oblk lvj) ∧ (b4 ∉ b2 :: bm :: oblk lvj) ∧ (bmk ∉ b2 :: bm :: oblk lvj) ∧ (bt ∉ b2 :: bm :: oblk lvj) ∧ (b1 ∉ b2 :: bm :: oblk lvj) ∧ Frm ac 66 [(2, (vp b1)), (5, (vp b2)), (8, (vI (rk.l.length : Int))), (9, (vp bb)), (54, lvk), (55, (vI (rk.l.length : Int))), (56, (vI (j : Int)))] ∧ (Ch [] w0 w) ∧ (b1 < w.heap.size) ∧ (w0.heap.size ≤ b1) ∧ (At w b1 0 [(vB W.dh), (vB W.kem)]) ∧ (w0.heap.size ≤ bm) ∧ (w0.heap.size ≤ b2) ∧ (RwIs w w0.heap.size ([bt, b2, bm]) b2 bm lvj rj) ∧ (Bd w W rk.met bb bt b4 bmk (.slice none 0 0)) ∧ (MapIs w bt mj) ∧ (∀ g, g ∈ oblk lvk → At w g 0 xsk) ∧ (IsNs w (oblk lvj ++ [bt, b2, bm]) rk.l xsk) ∧ True) _ ⟨0, [], rk, lvk, rfl, (by omega), (by simpa using hopn0), (Nat.le_refl _), hd1, hd2, hd3, hd4, hb1n, hF.sub ⟨rfl, rfl, rfl, rfl, rfl, rfl, rfl, trivial⟩, ⟨hC, hib1, lob1, hb1, lobm, lob2, hrw, hbd, htold, hats, hnsk, trivial⟩⟩ ?_
    rintro _ ac w ⟨j, mj, rj, lvj, rfl, hj, hopn, hlj, hd1, hd2, hd3, hd4, hb1n, hF, ⟨hC, hib1, lob1, hb1, lobm, lob2, hrw, hbd, htold, hats, hnsk, _⟩⟩
    refine wp_seq ?_
    refine wp_region_lit ?_
    refine wl (d_lss rfl rfl) rfl hF (fun ac hF => ?_)
    refine wl_nil ?_
    refine then_n ?_
    refine wp_seq ?_
    refine wp_if hF rfl (fun h => ?_) (fun h => ?_)
    ·have hlt3 := of_decide_eq_true h
     clear h
     obtain ⟨g0, cap0, hlvk, _, hg0⟩ := hform (by omega)
     obtain ⟨t1, hi⟩ : ∃ t, rk.l[j]? = some t := ⟨_, List.getElem?_eq_getElem (by omega)⟩
     have hmem : t1 ∈ rk.l := List.mem_of_getElem? hi
     obtain ⟨v1, hxi, hn1⟩ := hnsk.at j t1 hi
     obtain ⟨bn, rfl, hbn, hn1⟩ := hn1.ptr
     obtain ⟨m1, r1, hop1, hopn2⟩ := opnL_cons (show opnL W rk.met f (t1 :: rk.l.drop (j + 1)) mj rj = some (mf, r2) by rw [← drop_cons hi]; exact hopn)
     refine wp_skip ?_
     refine then_n ?_
     refine wp_seq ?_
     refine wp_block ?_
     refine wp_seq ?_
     refine wp_region_lit ?_
     refine wl (d_ixS (b := g0) (o := 0) (j := j) Tryd.underlying110 sz83 (by rw [← hlvk]; rfl) rfl rfl (by omega)) rfl hF (fun ac hF => ?_)
     refine wl (d_load1 Tryd.underlying83 rfl rfl (hats g0 hg0 j _ hxi)) rfl hF (fun ac hF => ?_)
     refine wl (d_assign rfl) rfl hF (fun ac hF => ?_)
     refine wl_nil ?_
     refine then_n ?_
     refine wp_region_lit ?_
     refine wl (d_move rfl) rfl hF (fun ac hF => ?_)
     refine wl (d_move rfl) rfl hF (fun ac hF => ?_)
     refine wl (d_move rfl) rfl hF (fun ac hF => ?_)
     refine wlR (ok_call c81 rfl (opened_calls hT hjoin hop1 (X := [bt, b2, bm]) _ (Nat.le_trans hnb hC.size) (Nat.le_trans hnb lobt) (hT _ _ (hC.below hnb (by simp)) hw0) hC.size (by simp) (by simp) (by simp) hd4 hrw hbd htold (hfk t1 hmem) hn1 (by have h1_ := opn1_len hop1; have h2_ := opnL_len hopn2; omega))) rfl hF ?_
     rintro _ w ac ⟨rfl, lv2, hop2⟩ hF
     have hch_ : Ch (bt :: b2 :: bm :: oblk lvj) _ w := hop2.2.2.1
     have hrwlo := hrw.lo
     have hbl_ := hbd.lt
     have htl_ := htold.lt
     have hd1' := nin_op hop2 hbl_.1 hd1
     have hd2' := nin_op hop2 hbl_.2.1 hd2
     have hd3' := nin_op hop2 hbl_.2.2 hd3
     have hd4' := nin_op hop2 htl_ hd4
     have hatsk := fun g hg => hop2.2.2.2.2.2 g xsk (hgne g hg).1 (hgne g hg).2.1 (hgne g hg).2.2 (fun _ => by rw [hxl]; exact hlj) (hats g hg)
     have hnsk2 := hop2.ns (by simp) (by simp) (by simp) hnsk
     have hb1m : b1 ∉ bt :: b2 :: bm :: oblk lvj := fun hm => by rcases List.mem_cons.1 hm with hm | hm; omega; exact hb1n hm
     have hb1n' := nin_op hop2 hib1 hb1n
     have hC := hC.trans' hch_ (fun z hz => .inr ((by simp at hz; rcases hz with rfl | rfl | rfl | hz; exact lobt; exact lob2; exact lobm; exact (hrwlo z hz).1)))
     have hib1 := hch_.lt hib1
     have hb1 := hb1.mv hch_ (by first | (simp; done) | assumption | (simp <;> omega))
     have hrw : RwIs w w0.heap.size ([bt, b2, bm]) b2 bm lv2 r1 := hop2.1
     have hbd : Bd w W rk.met bb bt b4 bmk (.slice none 0 0) := hbd.mv hch_ (fun hm => by rcases List.mem_cons.1 hm with hm | hm; exact hne_bb hm; exact hd1 hm) (fun hm => by rcases List.mem_cons.1 hm with hm | hm; exact hne_brk hm; exact hd2 hm) (fun hm => by rcases List.mem_cons.1 hm with hm | hm; exact hne_bmk hm; exact hd3 hm)
     have htold : MapIs w bt m1 := hop2.2.1
     have hats : ∀ g, g ∈ oblk lvk → At w g 0 xsk := hatsk
     have hnsk : IsNs w (oblk lv2 ++ [bt, b2, bm]) rk.l xsk := hnsk2
     refine wl_nil ?_
     refine block_n ?_
     refine then_n ?_
     refine wp_region_lit ?_
     refine wl (d_add rfl rfl (wrap_i64 (by omega) (by omega))) rfl hF (fun ac hF => ?_)
     refine wl (d_move rfl) rfl hF (fun ac hF => ?_)
     refine wl_nil ?_
     refine then_n ?_
     refine ⟨_, ?_, j + 1, m1, r1, lv2, rfl, (by omega), hopn2, (Nat.le_trans hlj (opn1_len hop1)), hd1', hd2', hd3', hd4', hb1n', hF.sub ⟨rfl, rfl, rfl, rfl, rfl, rfl, rfl, trivial⟩, ⟨hC, hib1, lob1, hb1, lobm, lob2, hrw, hbd, htold, hats, hnsk, trivial⟩⟩
     omega
    ·have hlt3 := of_decide_eq_false h
     clear h
     have hj2 : j = rk.l.length := by omega
     rw [hj2, List.drop_length] at hopn
     simp only [opnL, Option.some.injEq, Prod.mk.injEq] at hopn
     obtain ⟨rfl, rfl⟩ := hopn
     obtain ⟨fk2, hfk2, hs2n⟩ : ∃ fk2, fk2 < fk ∧ (((rk.l.length : Int) < (rj.l.length : Int) ∧ ∃ g, fk2 = g + 1 ∧ rounds W f g rj = some r) ∨ (fk2 = 0 ∧ (rk.l.length : Int) = (rj.l.length : Int) ∧ rj = r)) := by
      rcases halt with ⟨h1, h2⟩ | ⟨h1, h2⟩
      ·exact ⟨0, by omega, .inr ⟨rfl, by omega, h2⟩⟩
      ·exact ⟨g2 + 1, by omega, .inl ⟨by omega, g2, rfl, h2⟩⟩
     have hrk2 : rj.l.length ≤ r.l.length := by
      rcases halt with ⟨_, h2⟩ | ⟨_, h2⟩
      ·rw [h2]; exact Nat.le_refl _
      ·exact rounds_len h2
     refine wp_exit ?_
     refine then_exit ?_
     refine then_exit ?_
     refine block_exit ?_
     refine block_n ?_
     refine then_n ?_
     refine ⟨_, ?_, fk2, (rk.l.length : Int), rj, lvj, rfl, hs2n, (hfk.opnL hfk hopn0), hrk2, hb1n, hF.sub ⟨rfl, rfl, rfl, trivial⟩, ⟨hC, hib1, lob1, hb1, lobm, lob2, ne_b1_b2, ne_bm_b2, (hrw.mvx (Ch.refl [] _) (by simp) (by simp) (by simp) (by simp) (fun x hx => .inl (by simp at hx ⊢; simp [hx]))), trivial⟩⟩
     omega
  ·have hwk := of_decide_eq_false h
   clear h
   obtain ⟨_, _, rfl⟩ := hs2.resolve_left (fun h => by omega)
   refine wp_exit ?_
   refine then_exit ?_
   refine then_exit ?_
   refine block_exit ?_
   refine then_n ?_
   refine wp_seq ?_
   refine wp_region_lit ?_
   refine wl (d_move rfl) rfl hF (fun ac hF => ?_)
   refine wl (d_assign rfl) rfl hF (fun ac hF => ?_)
   refine wl_nil ?_
   refine then_n ?_
   refine wp_ret ?_
   refine body_ret hF (results1 Tryd.results44 (RV.tmp hF rfl)) ?_
   exact ⟨b2, bm, lvk, rfl, hrw, lob2, lobm, hC.gr⟩
end Go.Mi.Term
