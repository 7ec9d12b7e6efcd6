/- Texts that belong together: W13, H10, W14. General lemmas and walks; no conditions. -/
import Derived.Test.YtoefhjabaanokaaDoorB6
import Derived.Test.YtoefhjabaanokaaDoorW12
set_option linter.unusedSimpArgs false
set_option linter.unusedVariables false
set_option linter.unnecessarySimpa false
namespace Go.Mi.Term
open Go.Mi Go.Proofs Go.RowKit
set_option linter.unusedVariables false
set_option maxRecDepth 100000 in
set_option maxHeartbeats 4000000 in
theorem makes_kem {T0 : World → Prop} {nb : Nat} (hT : ∀ w w', Below nb w w' → T0 w → T0 w') (hjoin : JoinOk) {W : Wd} {met : Told} {f : Nat} (ih : ∀ g, g < f → BuildsOk T0 nb W met g) {n : Int} {a b : Tm} {m m' : Told} {r : Bool} {bb bt br bm bn : Nat} {rl : Value} (w0 : World) (hany : anyOf W met f (ways W (.mk 4 n [a, b])) m = some (r, m')) (hfit : Fit (.mk 4 n [a, b])) (hnb : nb ≤ w0.heap.size) (hnbt : nb ≤ bt) (hw0 : T0 w0) (hbd : Bd w0 W met bb bt br bm rl) (htold : MapIs w0 bt m)
 (hnd : IsN w0 [bt] (.mk 4 n [a, b]) (.pointer (some ⟨bn, 0, none⟩))) : Calls Tryd.prog 82 (List.toArray [.pointer (some ⟨bb, 0, none⟩), .pointer (some ⟨bn, 0, none⟩)]) w0 (Ret fun v w' => v = .bool r ∧ MapIs w' bt m' ∧ Ch [bt] w0 w') := by
 obtain ⟨hbb, hbr, hmet, hne1, hne2, hne3⟩ := hbd
 have hbtlt := htold.lt
 obtain ⟨sl, xs, hbn, hatn, hsl, hkk⟩ := hnd.open
 simp only [List.mem_singleton] at hbn
 obtain ⟨va, vb, rfl, hka, hkb⟩ := hkk.two
 obtain ⟨ba, rfl, hna, hka⟩ := hka.ptr
 obtain ⟨bb2, rfl, hnb2, hkb⟩ := hkb.ptr
 obtain ⟨bsl, osl, cap, rfl, hnsl, hbsl, hats⟩ := hsl.some (by simp)
 have hsl : SlA w0 [bt] (.slice (some ⟨bsl, osl, none⟩) 2 cap) 2 _ := .inr ⟨bsl, osl, cap, rfl, hnsl, hbsl, hats⟩
 simp only [List.mem_singleton] at hnsl
 have hfa : Fit a := hfit.kid (by simp)
 have hfb : Fit b := hfit.kid (by simp)
 have hl2 : tlen a + tlen b + 5 ≤ 1099511600000 := by have h1 := hfit.2; rw [tlen_two (by decide)] at h1; simp [word] at h1; omega
 have hpos : 1 ≤ tlen a ∧ 1 ≤ tlen b := ⟨txt_pos a, txt_pos b⟩
 have hfpa : Fit (pubOf a) := ⟨ok_pub hfa.1, by rw [tlen_pub]; omega⟩
 have hfpb : Fit (pubOf b) := ⟨ok_pub hfb.1, by rw [tlen_pub]; omega⟩
 have hfct : Fit (.mk 5 0 [a, b]) := ⟨ok_two (by omega) hfa.1 hfb.1, by rw [tlen_two (by decide)]; simp [word]; omega⟩
 replace hl2 : tlen a + tlen b ≤ 1099511600000 := by omega
 refine calls_of Tryd.func82 rfl Tryd.ntmps82 rfl fun ac hF => ?_
 have hC : Ch [bt] w0 w0 := Ch.refl _ _
 have hF := hF.sub (L' := [(0, (vp bb)), (1, (vp bn))]) ⟨rfl, rfl, trivial⟩
 refine wp_seq ?_
 refine wp_region_lit ?_
 refine wlR (ok_box rfl) rfl hF ?_
 rintro _ w ac ⟨b1, rfl, hnb_⟩ hF
 have hch_ : Ch [] _ w := hnb_.ch
 have lo_ := hnb_.lo hC.size
 have hC := hC.trans (hch_.mono (by simp))
 have hbb := hbb.mv hch_ (by simp <;> omega)
 have hbr := hbr.mv hch_ (by simp <;> omega)
 have hmet := hmet.mv hch_ (by simp <;> omega)
 have htold := htold.mv hch_ (by simp <;> omega)
 have hbtlt := hch_.lt hbtlt
 have hatn := hatn.mv hch_ (by simp <;> omega)
 have hats := hats.mv hch_ (by simp <;> omega)
 have hbsl := hch_.lt hbsl
 have hka : IsN w [bt] a (vp ba) := IsN.mv hch_ (by simp) (fun x hx => .inl hx) _ _ hka
 have hkb : IsN w [bt] b (vp bb2) := IsN.mv hch_ (by simp) (fun x hx => .inl hx) _ _ hkb
 have hsl : SlA w [bt] (.slice (some ⟨bsl, osl, none⟩) 2 cap) 2 [(vp ba), (vp bb2)] := hsl.mv hch_ (by simp) (fun x hx => .inl hx)
 have hkk : IsNs w [bt] [a, b] [(vp ba), (vp bb2)] := IsNs.mv hch_ (by simp) (fun x hx => .inl hx) _ _ hkk
 have hib1 : b1 < w.heap.size := hnb_.lt
 have lob1 : w0.heap.size ≤ b1 := lo_
 have hb1 : At w b1 0 [(vp bn)] := hnb_.at
 refine wl (d_assign rfl) rfl hF (fun ac hF => ?_)
 refine wl_nil ?_
 refine then_n ?_
 refine wp_seq ?_
 refine wp_region_lit ?_
 refine wl (d_makeFunc (us := []) (vs := [(vp b1)]) rfl rfl) rfl hF (fun ac hF => ?_)
 refine wl (d_assign rfl) rfl hF (fun ac hF => ?_)
 refine wl_nil ?_
 refine then_n ?_
 refine wp_seq ?_
 refine wp_seq ?_
 refine wp_region_lit ?_
 refine wl (d_load1 Tryd.underlying83 rfl rfl (hb1 0 _ rfl)) rfl hF (fun ac hF => ?_)
 refine wl (d_nil rfl) rfl hF (fun ac hF => ?_)
 refine wl (d_fieldAddrQ Tryd.underlying112 (m := 0) sz3 rfl rfl rfl) rfl hF (fun ac hF => ?_)
 refine wl (d_load1 Tryd.underlying3 rfl rfl (hatn 0 _ rfl)) rfl hF (fun ac hF => ?_)
 refine wl_nil ?_
 refine then_n ?_
 refine wp_block ?_
 refine wp_seq ?_
 refine wp_region_lit ?_
 refine wl (d_bool (c := false) (d_eql rfl rfl) (by decide)) rfl hF (fun ac hF => ?_)
 refine wl (d_assign rfl) rfl hF (fun ac hF => ?_)
 refine wl_nil ?_
 refine then_n ?_
 refine wp_cond_false (hF.eval rfl) ?_
 refine wp_seq ?_
 refine wp_region_lit ?_
 refine wl (d_bool (c := false) (d_eql rfl rfl) (by decide)) rfl hF (fun ac hF => ?_)
 refine wl (d_assign rfl) rfl hF (fun ac hF => ?_)
 refine wl_nil ?_
 refine then_n ?_
 refine wp_cond_false (hF.eval rfl) ?_
 refine wp_seq ?_
 refine wp_region_lit ?_
 refine wl (d_bool (c := true) (d_eql rfl rfl) (by decide)) rfl hF (fun ac hF => ?_)
 refine wl (d_assign rfl) rfl hF (fun ac hF => ?_)
 refine wl_nil ?_
 refine then_n ?_
 refine wp_cond_true (hF.eval rfl) ?_
 refine wp_seq ?_
 refine wp_region_lit ?_
 refine wl (d_load1 Tryd.underlying83 rfl rfl (hb1 0 _ rfl)) rfl hF (fun ac hF => ?_)
 refine wl (d_nil rfl) rfl hF (fun ac hF => ?_)
 refine wl (d_fieldAddrQ Tryd.underlying112 (m := 0) sz110 rfl rfl rfl) rfl hF (fun ac hF => ?_)
 refine wl (d_load1 Tryd.underlying110 rfl rfl (hatn 2 _ rfl)) rfl hF (fun ac hF => ?_)
 refine wlR (ok_call c96 rfl (made_calls (X := [bt]) (ks := [a, b]) hT hjoin (wrk_two (by omega) hl2) _ (Nat.le_trans hnb hC.size) (hT _ _ (hC.below hnb (by simpa using hnbt)) hw0) (by simp; exact hbtlt) hsl hkk)) rfl hF ?_
 rintro pc w ac ⟨hct, hch0_⟩ hF
 have hch_ : Ch [] _ w := Gr.ch hch0_
 have hC := hC.trans (hch_.mono (by simp))
 have hbb := hbb.mv hch_ (by simp <;> omega)
 have hbr := hbr.mv hch_ (by simp <;> omega)
 have hmet := hmet.mv hch_ (by simp <;> omega)
 have htold := htold.mv hch_ (by simp <;> omega)
 have hbtlt := hch_.lt hbtlt
 have hatn := hatn.mv hch_ (by simp <;> omega)
 have hats := hats.mv hch_ (by simp <;> omega)
 have hbsl := hch_.lt hbsl
 have hka : IsN w [bt] a (vp ba) := IsN.mv hch_ (by simp) (fun x hx => .inl hx) _ _ hka
 have hkb : IsN w [bt] b (vp bb2) := IsN.mv hch_ (by simp) (fun x hx => .inl hx) _ _ hkb
 have hsl : SlA w [bt] (.slice (some ⟨bsl, osl, none⟩) 2 cap) 2 [(vp ba), (vp bb2)] := hsl.mv hch_ (by simp) (fun x hx => .inl hx)
 have hkk : IsNs w [bt] [a, b] [(vp ba), (vp bb2)] := IsNs.mv hch_ (by simp) (fun x hx => .inl hx) _ _ hkk
 have hib1 := hch_.lt hib1
 have hb1 := hb1.mv hch_ (by simp <;> omega)
 refine wl (d_assign rfl) rfl hF (fun ac hF => ?_)
 refine wl_nil ?_
 refine then_n ?_
 refine wp_seq ?_
 rcases any_kem hany with ⟨g1, hg1, hq1, rfl⟩ | ⟨g1, g2, m1, hg1, hg2, hq1, hq2, rfl⟩ | ⟨g1, g2, m1, hg1, hg2, hq1, hq2, rfl, hflag⟩ | ⟨g1, g2, g3, m1, m2, hg1, hg2, hg3, hq1, hq2, hq3, hflag⟩
 ·skip
  obtain ⟨A1_0, hA1_0⟩ : ∃ A : (Nat → Value) → World → Prop, A = fun _ w => (Ch [bt] w0 w) ∧ (At w bb 0 [(vB W.dh), (vB W.kem), (vp br), (Value.map (some bt))]) ∧ (At w br 0 [rl, (Value.map (some bm))]) ∧ (MapIs w bm met) ∧ (MapIs w bt m) ∧ (bt < w.heap.size) ∧ (At w bn 0 [(vI 4), (vI n), (vS bsl osl 2 cap), (vT (txt (.mk 4 n [a, b])))]) ∧ (At w bsl osl [(vp ba), (vp bb2)]) ∧ (bsl < w.heap.size) ∧ (IsN w [bt] a (vp ba)) ∧ (IsN w [bt] b (vp bb2)) ∧ (SlA w [bt] (.slice (some ⟨bsl, osl, none⟩) 2 cap) 2 [(vp ba), (vp bb2)]) ∧ (IsNs w [bt] [a, b] [(vp ba), (vp bb2)]) ∧ (b1 < w.heap.size) ∧ (w0.heap.size ≤ b1) ∧ (At w b1 0 [(vp bn)]) ∧ (IsN w [bt] (.mk 5 0 [a, b]) pc) ∧ True := ⟨_, rfl⟩
  obtain ⟨A1_1, hA1_1⟩ : ∃ A : (Nat → Value) → World → Prop, A = fun H1 w => (Ch [bt] w0 w) ∧ (At w bb 0 [(vB W.dh), (vB W.kem), (vp br), (Value.map (some bt))]) ∧ (At w br 0 [rl, (Value.map (some bm))]) ∧ (MapIs w bm met) ∧ (MapIs w bt m) ∧ (bt < w.heap.size) ∧ (At w bn 0 [(vI 4), (vI n), (vS bsl osl 2 cap), (vT (txt (.mk 4 n [a, b])))]) ∧ (At w bsl osl [(vp ba), (vp bb2)]) ∧ (bsl < w.heap.size) ∧ (IsN w [bt] a (vp ba)) ∧ (IsN w [bt] b (vp bb2)) ∧ (SlA w [bt] (.slice (some ⟨bsl, osl, none⟩) 2 cap) 2 [(vp ba), (vp bb2)]) ∧ (IsNs w [bt] [a, b] [(vp ba), (vp bb2)]) ∧ (b1 < w.heap.size) ∧ (w0.heap.size ≤ b1) ∧ (At w b1 0 [(vp bn)]) ∧ (IsN w [bt] (.mk 5 0 [a, b]) pc) ∧ (IsN w [bt] (pubOf a) (H1 8)) ∧ True := ⟨_, rfl⟩
  obtain ⟨A1_2, hA1_2⟩ : ∃ A : (Nat → Value) → World → Prop, A = fun H1 w => (Ch [bt] w0 w) ∧ (At w bb 0 [(vB W.dh), (vB W.kem), (vp br), (Value.map (some bt))]) ∧ (At w br 0 [rl, (Value.map (some bm))]) ∧ (MapIs w bm met) ∧ (MapIs w bt m) ∧ (bt < w.heap.size) ∧ (At w bn 0 [(vI 4), (vI n), (vS bsl osl 2 cap), (vT (txt (.mk 4 n [a, b])))]) ∧ (At w bsl osl [(vp ba), (vp bb2)]) ∧ (bsl < w.heap.size) ∧ (IsN w [bt] a (vp ba)) ∧ (IsN w [bt] b (vp bb2)) ∧ (SlA w [bt] (.slice (some ⟨bsl, osl, none⟩) 2 cap) 2 [(vp ba), (vp bb2)]) ∧ (IsNs w [bt] [a, b] [(vp ba), (vp bb2)]) ∧ (b1 < w.heap.size) ∧ (w0.heap.size ≤ b1) ∧ (At w b1 0 [(vp bn)]) ∧ (IsN w [bt] (.mk 5 0 [a, b]) pc) ∧ (IsN w [bt] (pubOf a) (H1 8)) ∧ ((blk (H1 9)) < w.heap.size) ∧ (w0.heap.size ≤ (blk (H1 9))) ∧ (At w (blk (H1 9)) 0 [(vp bb2), (H1 8)]) ∧ (b1 < (blk (H1 9))) ∧ (H1 9 = (vS (blk (H1 9)) 0 2 2)) ∧ True := ⟨_, rfl⟩
  obtain ⟨A1_3, hA1_3⟩ : ∃ A : (Nat → Value) → World → Prop, A = fun H1 w => (Ch [bt] w0 w) ∧ (At w bb 0 [(vB W.dh), (vB W.kem), (vp br), (Value.map (some bt))]) ∧ (At w br 0 [rl, (Value.map (some bm))]) ∧ (MapIs w bm met) ∧ (MapIs w bt m') ∧ (bt < w.heap.size) ∧ (At w bn 0 [(vI 4), (vI n), (vS bsl osl 2 cap), (vT (txt (.mk 4 n [a, b])))]) ∧ (At w bsl osl [(vp ba), (vp bb2)]) ∧ (bsl < w.heap.size) ∧ (IsN w [bt] a (vp ba)) ∧ (IsN w [bt] b (vp bb2)) ∧ (SlA w [bt] (.slice (some ⟨bsl, osl, none⟩) 2 cap) 2 [(vp ba), (vp bb2)]) ∧ (IsNs w [bt] [a, b] [(vp ba), (vp bb2)]) ∧ (b1 < w.heap.size) ∧ (w0.heap.size ≤ b1) ∧ (At w b1 0 [(vp bn)]) ∧ (IsN w [bt] (.mk 5 0 [a, b]) pc) ∧ (IsN w [bt] (pubOf a) (H1 8)) ∧ ((blk (H1 9)) < w.heap.size) ∧ (w0.heap.size ≤ (blk (H1 9))) ∧ (At w (blk (H1 9)) 0 [(vp bb2), (H1 8)]) ∧ (b1 < (blk (H1 9))) ∧ (H1 9 = (vS (blk (H1 9)) 0 2 2)) ∧ True := ⟨_, rfl⟩
  refine region_hist mo (fun p_ H_ w_ => (([A1_0, A1_1, A1_2, A1_3] : List ((Nat → Value) → World → Prop)).getD p_ (fun _ _ => True)) H_ w_) [8, 9, 10] (rows := [hr_ [] [(0, (vp bb))] [0, 1, 2] (vp bb), hr_ [] [(3, (vp b1))] [0, 1] (vp bn), hr_ [(1, 64)] [] [0, 1] (vp bn), hr_ [(2, 65)] [] [0, 1] (vP bn 2), hr_ [(3, 66)] [] [0, 1] (vS bsl osl 2 cap), hr_ [(4, 67)] [] [0, 1] (vP bsl (osl + 1)), hr_ [(5, 68)] [] [0, 1] (vp bb2), hr_ [] [(5, (Value.func (.func 95) #[] #[(vp b1)]))] [0] (Value.func (.func 95) #[] #[(vp b1)]), ⟨[(7, 70)], [], [0], [8], fun H1 => H1 8, fun H1 K_ h_ => by simp only [h_ 8 (by simp)]⟩, ⟨[(6, 69), (8, 71)], [], [1], [9], fun H1 => H1 9, fun H1 K_ h_ => by simp only [h_ 9 (by simp)]⟩, hr_ [(0, 63), (9, 72)] [] [2] vt, hr_ [(10, 73)] [] [3] vt, hr_ [(11, 74)] [(0, (vp bb))] [3] undef, hr_ [(11, 74)] [(3, (vp b1))] [3] undef, hr_ [(13, 76), (11, 74)] [] [3] undef, hr_ [(14, 77), (11, 74)] [] [3] undef, hr_ [(15, 78), (11, 74)] [] [3] undef, hr_ [(16, 79), (11, 74)] [] [3] undef, hr_ [(17, 80), (11, 74)] [] [3] undef, hr_ [(11, 74)] [(6, pc)] [3] undef, hr_ [(18, 81), (19, 82), (11, 74)] [] [3] undef, hr_ [(12, 75), (20, 83), (11, 74)] [] [3] undef, hr_ [(11, 74), (21, 84)] [] [3] vt, hr_ [(22, 85)] [] [3] vt, hr_ [(23, 86)] [(0, (vp bb))] [3] undef, hr_ [(24, 87), (23, 86)] [] [3] undef, hr_ [(25, 88), (23, 86)] [] [3] undef, hr_ [(26, 89), (23, 86)] [] [3] undef, hr_ [(27, 90), (23, 86)] [] [3] undef, hr_ [(28, 91), (23, 86)] [] [3] undef, hr_ [(29, 92)] [(0, (vp bb))] [3] undef, hr_ [(29, 92)] [(6, pc)] [3] undef, hr_ [(31, 94), (29, 92)] [] [3] undef, hr_ [(30, 93), (32, 95), (29, 92)] [] [3] undef, hr_ [(29, 92), (33, 96), (23, 86)] [] [3] undef, hr_ [(23, 86), (34, 97)] [] [3] vt, hr_ [(35, 98)] [] [3] vt]) (by kernel_rfl) hF (fun H_ => ?_) ?_ ?_
  ·have hch_ := Ch.drew w
   have hfin_ : A1_0 H_ { w with drawn := w.drawn + 1 } := by rw [hA1_0]; exact ⟨hC.trans (hch_.mono (by simp)), hbb.mv hch_ (by simp <;> omega), hbr.mv hch_ (by simp <;> omega), hmet.mv hch_ (by simp <;> omega), htold.mv hch_ (by simp <;> omega), hch_.lt hbtlt, hatn.mv hch_ (by simp <;> omega), hats.mv hch_ (by simp <;> omega), hch_.lt hbsl, IsN.mv hch_ (by simp) (fun x hx => .inl hx) _ _ hka, IsN.mv hch_ (by simp) (fun x hx => .inl hx) _ _ hkb, hsl.mv hch_ (by simp) (fun x hx => .inl hx), IsNs.mv hch_ (by simp) (fun x hx => .inl hx) _ _ hkk, hch_.lt hib1, lob1, hb1.mv hch_ (by simp <;> omega), IsN.mv hch_ (by simp) (fun x hx => .inl hx) _ _ hct, trivial⟩
   exact hfin_
  ·refine ⟨?_, ?_, ?_, ?_, ?_, ?_, ?_, ?_, ?_, ?_, ?_, ?_, ?_, ?_, ?_, ?_, ?_, ?_, ?_, ?_, ?_, ?_, ?_, ?_, ?_, ?_, ?_, ?_, ?_, ?_, ?_, ?_, ?_, ?_, ?_, ?_, ?_, trivial⟩
   ·exact HOb.pure ⟨rfl, trivial⟩ rfl rfl (fun _ _ => d_move rfl)
   ·refine ⟨⟨rfl, trivial⟩, fun ph_ hp_ H1 w hW => ?_⟩
    rcases memN_or hp_ with rfl | hp_
    ·have hW0 := hW
     replace hW : A1_0 H1 w := hW
     rw [hA1_0] at hW
     obtain ⟨hC, hbb, hbr, hmet, htold, hbtlt, hatn, hats, hbsl, hka, hkb, hsl, hkk, hib1, lob1, hb1, hct, _⟩ := hW
     exact Det.ohc rfl hW0 (d_load1 Tryd.underlying83 rfl rfl (hb1 0 _ rfl))
    obtain rfl := memN_one hp_
    ·have hW0 := hW
     replace hW : A1_1 H1 w := hW
     rw [hA1_1] at hW
     obtain ⟨hC, hbb, hbr, hmet, htold, hbtlt, hatn, hats, hbsl, hka, hkb, hsl, hkk, hib1, lob1, hb1, hct, hpv2, _⟩ := hW
     exact Det.ohc rfl hW0 (d_load1 Tryd.underlying83 rfl rfl (hb1 0 _ rfl))
   ·exact HOb.pure trivial rfl rfl (fun _ _ => d_nil rfl)
   ·exact HOb.pure trivial rfl rfl (fun _ _ => d_fieldAddrQ Tryd.underlying112 (m := 0) sz110 rfl rfl rfl)
   ·refine ⟨trivial, fun ph_ hp_ H1 w hW => ?_⟩
    rcases memN_or hp_ with rfl | hp_
    ·have hW0 := hW
     replace hW : A1_0 H1 w := hW
     rw [hA1_0] at hW
     obtain ⟨hC, hbb, hbr, hmet, htold, hbtlt, hatn, hats, hbsl, hka, hkb, hsl, hkk, hib1, lob1, hb1, hct, _⟩ := hW
     exact Det.ohc rfl hW0 (d_load1 Tryd.underlying110 rfl rfl (hatn 2 _ rfl))
    obtain rfl := memN_one hp_
    ·have hW0 := hW
     replace hW : A1_1 H1 w := hW
     rw [hA1_1] at hW
     obtain ⟨hC, hbb, hbr, hmet, htold, hbtlt, hatn, hats, hbsl, hka, hkb, hsl, hkk, hib1, lob1, hb1, hct, hpv2, _⟩ := hW
     exact Det.ohc rfl hW0 (d_load1 Tryd.underlying110 rfl rfl (hatn 2 _ rfl))
   ·refine ⟨trivial, fun ph_ hp_ H1 w hW => ?_⟩
    rcases memN_or hp_ with rfl | hp_
    ·have hW0 := hW
     replace hW : A1_0 H1 w := hW
     rw [hA1_0] at hW
     obtain ⟨hC, hbb, hbr, hmet, htold, hbtlt, hatn, hats, hbsl, hka, hkb, hsl, hkk, hib1, lob1, hb1, hct, _⟩ := hW
     exact Det.ohc rfl hW0 (d_ixSQ (j := 1) (q := osl + 1) Tryd.underlying110 sz83 rfl rfl rfl (by omega) rfl)
    obtain rfl := memN_one hp_
    ·have hW0 := hW
     replace hW : A1_1 H1 w := hW
     rw [hA1_1] at hW
     obtain ⟨hC, hbb, hbr, hmet, htold, hbtlt, hatn, hats, hbsl, hka, hkb, hsl, hkk, hib1, lob1, hb1, hct, hpv2, _⟩ := hW
     exact Det.ohc rfl hW0 (d_ixSQ (j := 1) (q := osl + 1) Tryd.underlying110 sz83 rfl rfl rfl (by omega) rfl)
   ·refine ⟨trivial, fun ph_ hp_ H1 w hW => ?_⟩
    rcases memN_or hp_ with rfl | hp_
    ·have hW0 := hW
     replace hW : A1_0 H1 w := hW
     rw [hA1_0] at hW
     obtain ⟨hC, hbb, hbr, hmet, htold, hbtlt, hatn, hats, hbsl, hka, hkb, hsl, hkk, hib1, lob1, hb1, hct, _⟩ := hW
     exact Det.ohc rfl hW0 (d_load1 Tryd.underlying83 rfl rfl (hats 1 _ rfl))
    obtain rfl := memN_one hp_
    ·have hW0 := hW
     replace hW : A1_1 H1 w := hW
     rw [hA1_1] at hW
     obtain ⟨hC, hbb, hbr, hmet, htold, hbtlt, hatn, hats, hbsl, hka, hkb, hsl, hkk, hib1, lob1, hb1, hct, hpv2, _⟩ := hW
     exact Det.ohc rfl hW0 (d_load1 Tryd.underlying83 rfl rfl (hats 1 _ rfl))
   ·exact HOb.pure ⟨rfl, trivial⟩ rfl rfl (fun _ _ => d_move rfl)
   ·refine ⟨trivial, fun ph_ hp_ H1 w hW => ?_⟩
    obtain rfl := memN_one hp_
    replace hW : A1_0 H1 w := hW
    rw [hA1_0] at hW
    obtain ⟨hC, hbb, hbr, hmet, htold, hbtlt, hatn, hats, hbsl, hka, hkb, hsl, hkk, hib1, lob1, hb1, hct, _⟩ := hW
    refine Ok1.mono (ok_callv (first := #[]) (captured := #[(vp b1)]) rfl c95 rfl (pub_calls (X := [bt]) (ks := [a, b]) (i := 0) (t1 := a) hT hjoin (wrk_pub hfa.2) _ (Nat.le_trans hnb hC.size) (hT _ _ (hC.below hnb (by simpa using hnbt)) hw0) (by simp; exact hbtlt) (hb1 0 _ rfl) hatn rfl hats (by simp) rfl hka)) ?_
    rintro pv2 w' ⟨hpv2, hch0_⟩
    have hch_ : Ch [] _ w' := Gr.ch hch0_
    have hC := hC.trans (hch_.mono (by simp))
    have hbb := hbb.mv hch_ (by simp <;> omega)
    have hbr := hbr.mv hch_ (by simp <;> omega)
    have hmet := hmet.mv hch_ (by simp <;> omega)
    have htold := htold.mv hch_ (by simp <;> omega)
    have hbtlt := hch_.lt hbtlt
    have hatn := hatn.mv hch_ (by simp <;> omega)
    have hats := hats.mv hch_ (by simp <;> omega)
    have hbsl := hch_.lt hbsl
    have hka : IsN w' [bt] a (vp ba) := IsN.mv hch_ (by simp) (fun x hx => .inl hx) _ _ hka
    have hkb : IsN w' [bt] b (vp bb2) := IsN.mv hch_ (by simp) (fun x hx => .inl hx) _ _ hkb
    have hsl : SlA w' [bt] (.slice (some ⟨bsl, osl, none⟩) 2 cap) 2 [(vp ba), (vp bb2)] := hsl.mv hch_ (by simp) (fun x hx => .inl hx)
    have hkk : IsNs w' [bt] [a, b] [(vp ba), (vp bb2)] := IsNs.mv hch_ (by simp) (fun x hx => .inl hx) _ _ hkk
    have hib1 := hch_.lt hib1
    have hb1 := hb1.mv hch_ (by simp <;> omega)
    have hct : IsN w' [bt] (.mk 5 0 [a, b]) pc := IsN.mv hch_ (by simp) (fun x hx => .inl hx) _ _ hct
    have hfin_ : A1_1 (updV H1 8 pv2) w' := by rw [hA1_1]; exact ⟨hC, hbb, hbr, hmet, htold, hbtlt, hatn, hats, hbsl, hka, hkb, hsl, hkk, hib1, lob1, hb1, hct, hpv2, trivial⟩
    exact fin_ rfl ⟨hfin_, rfl⟩
   ·refine ⟨trivial, fun ph_ hp_ H1 w hW => ?_⟩
    obtain rfl := memN_one hp_
    replace hW : A1_1 H1 w := hW
    rw [hA1_1] at hW
    obtain ⟨hC, hbb, hbr, hmet, htold, hbtlt, hatn, hats, hbsl, hka, hkb, hsl, hkk, hib1, lob1, hb1, hct, hpv2, _⟩ := hW
    refine Ok1.mono (ok_buildSlice (cells := #[(vp bb2), (H1 8)]) Tryd.underlying110 zz83 rfl (by decide) (by decide) (by exact fill2 rfl (IsN.cellsv hpv2))) ?_
    rintro _ w' ⟨b3, rfl, hnb_⟩
    have hch_ : Ch [] _ w' := hnb_.ch
    have lo_ := hnb_.lo hC.size
    have ne_b1_b3 := hnb_.gt hib1
    have hC := hC.trans (hch_.mono (by simp))
    have hbb := hbb.mv hch_ (by simp <;> omega)
    have hbr := hbr.mv hch_ (by simp <;> omega)
    have hmet := hmet.mv hch_ (by simp <;> omega)
    have htold := htold.mv hch_ (by simp <;> omega)
    have hbtlt := hch_.lt hbtlt
    have hatn := hatn.mv hch_ (by simp <;> omega)
    have hats := hats.mv hch_ (by simp <;> omega)
    have hbsl := hch_.lt hbsl
    have hka : IsN w' [bt] a (vp ba) := IsN.mv hch_ (by simp) (fun x hx => .inl hx) _ _ hka
    have hkb : IsN w' [bt] b (vp bb2) := IsN.mv hch_ (by simp) (fun x hx => .inl hx) _ _ hkb
    have hsl : SlA w' [bt] (.slice (some ⟨bsl, osl, none⟩) 2 cap) 2 [(vp ba), (vp bb2)] := hsl.mv hch_ (by simp) (fun x hx => .inl hx)
    have hkk : IsNs w' [bt] [a, b] [(vp ba), (vp bb2)] := IsNs.mv hch_ (by simp) (fun x hx => .inl hx) _ _ hkk
    have hib1 := hch_.lt hib1
    have hb1 := hb1.mv hch_ (by simp <;> omega)
    have hct : IsN w' [bt] (.mk 5 0 [a, b]) pc := IsN.mv hch_ (by simp) (fun x hx => .inl hx) _ _ hct
    have hpv2 : IsN w' [bt] (pubOf a) (H1 8) := IsN.mv hch_ (by simp) (fun x hx => .inl hx) _ _ hpv2
    have hib3 : b3 < w'.heap.size := hnb_.lt
    have lob3 : w0.heap.size ≤ b3 := lo_
    have hb3 : At w' b3 0 [(vp bb2), (H1 8)] := hnb_.at
    have ne_b1_b3 : b1 < b3 := ne_b1_b3
    have hfin_ : A1_2 (updV H1 9 (vS b3 0 2 2)) w' := by rw [hA1_2]; exact ⟨hC, hbb, hbr, hmet, htold, hbtlt, hatn, hats, hbsl, hka, hkb, hsl, hkk, hib1, lob1, hb1, hct, hpv2, hib3, lob3, hb3, ne_b1_b3, rfl, trivial⟩
    exact fin_ rfl ⟨hfin_, rfl⟩
   ·refine ⟨trivial, fun ph_ hp_ H1 w hW => ?_⟩
    obtain rfl := memN_one hp_
    replace hW : A1_2 H1 w := hW
    rw [hA1_2] at hW
    obtain ⟨hC, hbb, hbr, hmet, htold, hbtlt, hatn, hats, hbsl, hka, hkb, hsl, hkk, hib1, lob1, hb1, hct, hpv2, hib3, lob3, hb3, ne_b1_b3, hv1_9, _⟩ := hW
    refine Ok1.sub (L' := [(63, (vp bb)), (72, (vS (blk (H1 9)) 0 2 2))]) ⟨rfl, congrArg some hv1_9, trivial⟩ (Ok1.mono (ok_call c45 rfl (ih g1 (by omega) ([b, pubOf a]) m m' true bb bt br bm rl _ _ _ _ (by simp) hq1 (fun t ht => by simp at ht; first | (rcases ht with rfl | rfl <;> assumption) | (subst ht; assumption)) (Nat.le_trans hnb hC.size) hnbt (hT _ _ (hC.below hnb (by simpa using hnbt)) hw0) ⟨hbb, hbr, hmet, hne1, hne2, hne3⟩ htold (.inr ⟨_, 0, _, rfl, by simp <;> omega, hib3, hb3⟩) (IsNs.of_two hkb hpv2))) ?_)
    rintro _ w' ⟨rfl, htold, hch0_⟩
    have hch_ : Ch [bt] _ w' := hch0_
    have hC := hC.trans (hch_.mono (by simp))
    have hbb := hbb.mv hch_ (by simp <;> omega)
    have hbr := hbr.mv hch_ (by simp <;> omega)
    have hmet := hmet.mv hch_ (by simp <;> omega)
    have hbtlt := hch_.lt hbtlt
    have hatn := hatn.mv hch_ (by simp <;> omega)
    have hats := hats.mv hch_ (by simp <;> omega)
    have hbsl := hch_.lt hbsl
    have hka : IsN w' [bt] a (vp ba) := IsN.mv hch_ (by simp) (fun x hx => .inl hx) _ _ hka
    have hkb : IsN w' [bt] b (vp bb2) := IsN.mv hch_ (by simp) (fun x hx => .inl hx) _ _ hkb
    have hsl : SlA w' [bt] (.slice (some ⟨bsl, osl, none⟩) 2 cap) 2 [(vp ba), (vp bb2)] := hsl.mv hch_ (by simp) (fun x hx => .inl hx)
    have hkk : IsNs w' [bt] [a, b] [(vp ba), (vp bb2)] := IsNs.mv hch_ (by simp) (fun x hx => .inl hx) _ _ hkk
    have hib1 := hch_.lt hib1
    have hb1 := hb1.mv hch_ (by simp <;> omega)
    have hct : IsN w' [bt] (.mk 5 0 [a, b]) pc := IsN.mv hch_ (by simp) (fun x hx => .inl hx) _ _ hct
    have hpv2 : IsN w' [bt] (pubOf a) (H1 8) := IsN.mv hch_ (by simp) (fun x hx => .inl hx) _ _ hpv2
    have hib3 := hch_.lt hib3
    have hb3 := hb3.mv hch_ (by simp <;> omega)
    have hfin_ : A1_3 (updV H1 10 vt) w' := by rw [hA1_3]; exact ⟨hC, hbb, hbr, hmet, htold, hbtlt, hatn, hats, hbsl, hka, hkb, hsl, hkk, hib1, lob1, hb1, hct, hpv2, hib3, lob3, hb3, ne_b1_b3, hv1_9, trivial⟩
    exact fin_ rfl ⟨hfin_, rfl⟩
   ·exact HOb.pure trivial rfl rfl (fun _ _ => d_move rfl)
   ·exact HOb.skip ⟨rfl, trivial⟩ rfl rfl (fun _ => rfl) (by decide) rfl (fun _ => rfl)
   ·exact HOb.skip ⟨rfl, trivial⟩ rfl rfl (fun _ => rfl) (by decide) rfl (fun _ => rfl)
   ·exact HOb.skip trivial rfl rfl (fun _ => rfl) (by decide) rfl (fun _ => rfl)
   ·exact HOb.skip trivial rfl rfl (fun _ => rfl) (by decide) rfl (fun _ => rfl)
   ·exact HOb.skip trivial rfl rfl (fun _ => rfl) (by decide) rfl (fun _ => rfl)
   ·exact HOb.skip trivial rfl rfl (fun _ => rfl) (by decide) rfl (fun _ => rfl)
   ·exact HOb.skip trivial rfl rfl (fun _ => rfl) (by decide) rfl (fun _ => rfl)
   ·exact HOb.skip ⟨rfl, trivial⟩ rfl rfl (fun _ => rfl) (by decide) rfl (fun _ => rfl)
   ·exact HOb.skip trivial rfl rfl (fun _ => rfl) (by decide) rfl (fun _ => rfl)
   ·exact HOb.skip trivial rfl rfl (fun _ => rfl) (by decide) rfl (fun _ => rfl)
   ·exact HOb.pure trivial rfl rfl (fun _ _ => d_pick (b := true) rfl rfl)
   ·exact HOb.pure trivial rfl rfl (fun _ _ => d_move rfl)
   ·exact HOb.skip ⟨rfl, trivial⟩ rfl rfl (fun _ => rfl) (by decide) rfl (fun _ => rfl)
   ·exact HOb.skip trivial rfl rfl (fun _ => rfl) (by decide) rfl (fun _ => rfl)
   ·exact HOb.skip trivial rfl rfl (fun _ => rfl) (by decide) rfl (fun _ => rfl)
   ·exact HOb.skip trivial rfl rfl (fun _ => rfl) (by decide) rfl (fun _ => rfl)
   ·exact HOb.skip trivial rfl rfl (fun _ => rfl) (by decide) rfl (fun _ => rfl)
   ·exact HOb.skip trivial rfl rfl (fun _ => rfl) (by decide) rfl (fun _ => rfl)
   ·exact HOb.skip ⟨rfl, trivial⟩ rfl rfl (fun _ => rfl) (by decide) rfl (fun _ => rfl)
   ·exact HOb.skip ⟨rfl, trivial⟩ rfl rfl (fun _ => rfl) (by decide) rfl (fun _ => rfl)
   ·exact HOb.skip trivial rfl rfl (fun _ => rfl) (by decide) rfl (fun _ => rfl)
   ·exact HOb.skip trivial rfl rfl (fun _ => rfl) (by decide) rfl (fun _ => rfl)
   ·exact HOb.skip trivial rfl rfl (fun _ => rfl) (by decide) rfl (fun _ => rfl)
   ·exact HOb.pure trivial rfl rfl (fun _ _ => d_pick (b := true) rfl rfl)
   ·exact HOb.pure trivial rfl rfl (fun _ _ => d_assign rfl)
  ·intro ac w H1 hW hF
   replace hW : A1_3 H1 w := hW
   rw [hA1_3] at hW
   obtain ⟨hC, hbb, hbr, hmet, htold, hbtlt, hatn, hats, hbsl, hka, hkb, hsl, hkk, hib1, lob1, hb1, hct, hpv2, hib3, lob3, hb3, ne_b1_b3, hv1_9, _⟩ := hW
   clear hA1_0 A1_0 hA1_1 A1_1 hA1_2 A1_2 hA1_3 A1_3
   have hF := hF.sub (L' := [(0, (vp bb)), (1, (vp bn)), (3, (vp b1)), (4, vt), (5, (Value.func (.func 95) #[] #[(vp b1)])), (6, pc), (11, (vI 4)), (12, vf), (14, vf), (56, vt)]) ⟨rfl, rfl, rfl, rfl, rfl, rfl, rfl, rfl, rfl, rfl, trivial⟩
   refine then_n ?_
   refine wp_ret ?_
   refine block_ret ?_
   refine then_ret ?_
   refine body_ret hF (results1 Tryd.results82 (RV.tmp hF rfl)) ?_
   exact ⟨rfl, htold, hC⟩
 ·skip
  obtain ⟨A2_0, hA2_0⟩ : ∃ A : (Nat → Value) → World → Prop, A = fun _ w => (Ch [bt] w0 w) ∧ (At w bb 0 [(vB W.dh), (vB W.kem), (vp br), (Value.map (some bt))]) ∧ (At w br 0 [rl, (Value.map (some bm))]) ∧ (MapIs w bm met) ∧ (MapIs w bt m) ∧ (bt < w.heap.size) ∧ (At w bn 0 [(vI 4), (vI n), (vS bsl osl 2 cap), (vT (txt (.mk 4 n [a, b])))]) ∧ (At w bsl osl [(vp ba), (vp bb2)]) ∧ (bsl < w.heap.size) ∧ (IsN w [bt] a (vp ba)) ∧ (IsN w [bt] b (vp bb2)) ∧ (SlA w [bt] (.slice (some ⟨bsl, osl, none⟩) 2 cap) 2 [(vp ba), (vp bb2)]) ∧ (IsNs w [bt] [a, b] [(vp ba), (vp bb2)]) ∧ (b1 < w.heap.size) ∧ (w0.heap.size ≤ b1) ∧ (At w b1 0 [(vp bn)]) ∧ (IsN w [bt] (.mk 5 0 [a, b]) pc) ∧ True := ⟨_, rfl⟩
  obtain ⟨A2_1, hA2_1⟩ : ∃ A : (Nat → Value) → World → Prop, A = fun H2 w => (Ch [bt] w0 w) ∧ (At w bb 0 [(vB W.dh), (vB W.kem), (vp br), (Value.map (some bt))]) ∧ (At w br 0 [rl, (Value.map (some bm))]) ∧ (MapIs w bm met) ∧ (MapIs w bt m) ∧ (bt < w.heap.size) ∧ (At w bn 0 [(vI 4), (vI n), (vS bsl osl 2 cap), (vT (txt (.mk 4 n [a, b])))]) ∧ (At w bsl osl [(vp ba), (vp bb2)]) ∧ (bsl < w.heap.size) ∧ (IsN w [bt] a (vp ba)) ∧ (IsN w [bt] b (vp bb2)) ∧ (SlA w [bt] (.slice (some ⟨bsl, osl, none⟩) 2 cap) 2 [(vp ba), (vp bb2)]) ∧ (IsNs w [bt] [a, b] [(vp ba), (vp bb2)]) ∧ (b1 < w.heap.size) ∧ (w0.heap.size ≤ b1) ∧ (At w b1 0 [(vp bn)]) ∧ (IsN w [bt] (.mk 5 0 [a, b]) pc) ∧ (IsN w [bt] (pubOf a) (H2 8)) ∧ True := ⟨_, rfl⟩
  obtain ⟨A2_2, hA2_2⟩ : ∃ A : (Nat → Value) → World → Prop, A = fun H2 w => (Ch [bt] w0 w) ∧ (At w bb 0 [(vB W.dh), (vB W.kem), (vp br), (Value.map (some bt))]) ∧ (At w br 0 [rl, (Value.map (some bm))]) ∧ (MapIs w bm met) ∧ (MapIs w bt m) ∧ (bt < w.heap.size) ∧ (At w bn 0 [(vI 4), (vI n), (vS bsl osl 2 cap), (vT (txt (.mk 4 n [a, b])))]) ∧ (At w bsl osl [(vp ba), (vp bb2)]) ∧ (bsl < w.heap.size) ∧ (IsN w [bt] a (vp ba)) ∧ (IsN w [bt] b (vp bb2)) ∧ (SlA w [bt] (.slice (some ⟨bsl, osl, none⟩) 2 cap) 2 [(vp ba), (vp bb2)]) ∧ (IsNs w [bt] [a, b] [(vp ba), (vp bb2)]) ∧ (b1 < w.heap.size) ∧ (w0.heap.size ≤ b1) ∧ (At w b1 0 [(vp bn)]) ∧ (IsN w [bt] (.mk 5 0 [a, b]) pc) ∧ (IsN w [bt] (pubOf a) (H2 8)) ∧ ((blk (H2 9)) < w.heap.size) ∧ (w0.heap.size ≤ (blk (H2 9))) ∧ (At w (blk (H2 9)) 0 [(vp bb2), (H2 8)]) ∧ (b1 < (blk (H2 9))) ∧ (H2 9 = (vS (blk (H2 9)) 0 2 2)) ∧ True := ⟨_, rfl⟩
  obtain ⟨A2_3, hA2_3⟩ : ∃ A : (Nat → Value) → World → Prop, A = fun H2 w => (Ch [bt] w0 w) ∧ (At w bb 0 [(vB W.dh), (vB W.kem), (vp br), (Value.map (some bt))]) ∧ (At w br 0 [rl, (Value.map (some bm))]) ∧ (MapIs w bm met) ∧ (MapIs w bt m1) ∧ (bt < w.heap.size) ∧ (At w bn 0 [(vI 4), (vI n), (vS bsl osl 2 cap), (vT (txt (.mk 4 n [a, b])))]) ∧ (At w bsl osl [(vp ba), (vp bb2)]) ∧ (bsl < w.heap.size) ∧ (IsN w [bt] a (vp ba)) ∧ (IsN w [bt] b (vp bb2)) ∧ (SlA w [bt] (.slice (some ⟨bsl, osl, none⟩) 2 cap) 2 [(vp ba), (vp bb2)]) ∧ (IsNs w [bt] [a, b] [(vp ba), (vp bb2)]) ∧ (b1 < w.heap.size) ∧ (w0.heap.size ≤ b1) ∧ (At w b1 0 [(vp bn)]) ∧ (IsN w [bt] (.mk 5 0 [a, b]) pc) ∧ (IsN w [bt] (pubOf a) (H2 8)) ∧ ((blk (H2 9)) < w.heap.size) ∧ (w0.heap.size ≤ (blk (H2 9))) ∧ (At w (blk (H2 9)) 0 [(vp bb2), (H2 8)]) ∧ (b1 < (blk (H2 9))) ∧ (H2 9 = (vS (blk (H2 9)) 0 2 2)) ∧ True := ⟨_, rfl⟩
  obtain ⟨A2_4, hA2_4⟩ : ∃ A : (Nat → Value) → World → Prop, A = fun H2 w => (Ch [bt] w0 w) ∧ (At w bb 0 [(vB W.dh), (vB W.kem), (vp br), (Value.map (some bt))]) ∧ (At w br 0 [rl, (Value.map (some bm))]) ∧ (MapIs w bm met) ∧ (MapIs w bt m1) ∧ (bt < w.heap.size) ∧ (At w bn 0 [(vI 4), (vI n), (vS bsl osl 2 cap), (vT (txt (.mk 4 n [a, b])))]) ∧ (At w bsl osl [(vp ba), (vp bb2)]) ∧ (bsl < w.heap.size) ∧ (IsN w [bt] a (vp ba)) ∧ (IsN w [bt] b (vp bb2)) ∧ (SlA w [bt] (.slice (some ⟨bsl, osl, none⟩) 2 cap) 2 [(vp ba), (vp bb2)]) ∧ (IsNs w [bt] [a, b] [(vp ba), (vp bb2)]) ∧ (b1 < w.heap.size) ∧ (w0.heap.size ≤ b1) ∧ (At w b1 0 [(vp bn)]) ∧ (IsN w [bt] (.mk 5 0 [a, b]) pc) ∧ (IsN w [bt] (pubOf a) (H2 8)) ∧ ((blk (H2 9)) < w.heap.size) ∧ (w0.heap.size ≤ (blk (H2 9))) ∧ (At w (blk (H2 9)) 0 [(vp bb2), (H2 8)]) ∧ (b1 < (blk (H2 9))) ∧ (H2 9 = (vS (blk (H2 9)) 0 2 2)) ∧ ((blk (H2 20)) < w.heap.size) ∧ (w0.heap.size ≤ (blk (H2 20))) ∧ (At w (blk (H2 20)) 0 [(vp ba), pc]) ∧ (b1 < (blk (H2 20))) ∧ ((blk (H2 9)) < (blk (H2 20))) ∧ (H2 20 = (vS (blk (H2 20)) 0 2 2)) ∧ True := ⟨_, rfl⟩
  obtain ⟨A2_5, hA2_5⟩ : ∃ A : (Nat → Value) → World → Prop, A = fun H2 w => (Ch [bt] w0 w) ∧ (At w bb 0 [(vB W.dh), (vB W.kem), (vp br), (Value.map (some bt))]) ∧ (At w br 0 [rl, (Value.map (some bm))]) ∧ (MapIs w bm met) ∧ (MapIs w bt m') ∧ (bt < w.heap.size) ∧ (At w bn 0 [(vI 4), (vI n), (vS bsl osl 2 cap), (vT (txt (.mk 4 n [a, b])))]) ∧ (At w bsl osl [(vp ba), (vp bb2)]) ∧ (bsl < w.heap.size) ∧ (IsN w [bt] a (vp ba)) ∧ (IsN w [bt] b (vp bb2)) ∧ (SlA w [bt] (.slice (some ⟨bsl, osl, none⟩) 2 cap) 2 [(vp ba), (vp bb2)]) ∧ (IsNs w [bt] [a, b] [(vp ba), (vp bb2)]) ∧ (b1 < w.heap.size) ∧ (w0.heap.size ≤ b1) ∧ (At w b1 0 [(vp bn)]) ∧ (IsN w [bt] (.mk 5 0 [a, b]) pc) ∧ (IsN w [bt] (pubOf a) (H2 8)) ∧ ((blk (H2 9)) < w.heap.size) ∧ (w0.heap.size ≤ (blk (H2 9))) ∧ (At w (blk (H2 9)) 0 [(vp bb2), (H2 8)]) ∧ (b1 < (blk (H2 9))) ∧ (H2 9 = (vS (blk (H2 9)) 0 2 2)) ∧ ((blk (H2 20)) < w.heap.size) ∧ (w0.heap.size ≤ (blk (H2 20))) ∧ (At w (blk (H2 20)) 0 [(vp ba), pc]) ∧ (b1 < (blk (H2 20))) ∧ ((blk (H2 9)) < (blk (H2 20))) ∧ (H2 20 = (vS (blk (H2 20)) 0 2 2)) ∧ True := ⟨_, rfl⟩
  refine region_hist mo (fun p_ H_ w_ => (([A2_0, A2_1, A2_2, A2_3, A2_4, A2_5] : List ((Nat → Value) → World → Prop)).getD p_ (fun _ _ => True)) H_ w_) [8, 9, 10, 20, 21] (rows := [hr_ [] [(0, (vp bb))] [0, 1, 2] (vp bb), hr_ [] [(3, (vp b1))] [0, 1] (vp bn), hr_ [(1, 64)] [] [0, 1] (vp bn), hr_ [(2, 65)] [] [0, 1] (vP bn 2), hr_ [(3, 66)] [] [0, 1] (vS bsl osl 2 cap), hr_ [(4, 67)] [] [0, 1] (vP bsl (osl + 1)), hr_ [(5, 68)] [] [0, 1] (vp bb2), hr_ [] [(5, (Value.func (.func 95) #[] #[(vp b1)]))] [0] (Value.func (.func 95) #[] #[(vp b1)]), ⟨[(7, 70)], [], [0], [8], fun H2 => H2 8, fun H2 K_ h_ => by simp only [h_ 8 (by simp)]⟩, ⟨[(6, 69), (8, 71)], [], [1], [9], fun H2 => H2 9, fun H2 K_ h_ => by simp only [h_ 9 (by simp)]⟩, hr_ [(0, 63), (9, 72)] [] [2] vf, hr_ [(10, 73)] [] [3] vf, hr_ [(11, 74)] [(0, (vp bb))] [3, 4] (vp bb), hr_ [(11, 74)] [(3, (vp b1))] [3] (vp bn), hr_ [(13, 76), (11, 74)] [] [3] (vp bn), hr_ [(14, 77), (11, 74)] [] [3] (vP bn 2), hr_ [(15, 78), (11, 74)] [] [3] (vS bsl osl 2 cap), hr_ [(16, 79), (11, 74)] [] [3] (vP bsl (osl + 0)), hr_ [(17, 80), (11, 74)] [] [3] (vp ba), hr_ [(11, 74)] [(6, pc)] [3] pc, ⟨[(18, 81), (19, 82), (11, 74)], [], [3], [20], fun H2 => H2 20, fun H2 K_ h_ => by simp only [h_ 20 (by simp)]⟩, hr_ [(12, 75), (20, 83), (11, 74)] [] [4] vt, hr_ [(11, 74), (21, 84)] [] [5] vt, hr_ [(22, 85)] [] [5] vt, hr_ [(23, 86)] [(0, (vp bb))] [5] undef, hr_ [(24, 87), (23, 86)] [] [5] undef, hr_ [(25, 88), (23, 86)] [] [5] undef, hr_ [(26, 89), (23, 86)] [] [5] undef, hr_ [(27, 90), (23, 86)] [] [5] undef, hr_ [(28, 91), (23, 86)] [] [5] undef, hr_ [(29, 92)] [(0, (vp bb))] [5] undef, hr_ [(29, 92)] [(6, pc)] [5] undef, hr_ [(31, 94), (29, 92)] [] [5] undef, hr_ [(30, 93), (32, 95), (29, 92)] [] [5] undef, hr_ [(29, 92), (33, 96), (23, 86)] [] [5] undef, hr_ [(23, 86), (34, 97)] [] [5] vt, hr_ [(35, 98)] [] [5] vt]) (by kernel_rfl) hF (fun H_ => ?_) ?_ ?_
  ·have hch_ := Ch.drew w
   have hfin_ : A2_0 H_ { w with drawn := w.drawn + 1 } := by rw [hA2_0]; exact ⟨hC.trans (hch_.mono (by simp)), hbb.mv hch_ (by simp <;> omega), hbr.mv hch_ (by simp <;> omega), hmet.mv hch_ (by simp <;> omega), htold.mv hch_ (by simp <;> omega), hch_.lt hbtlt, hatn.mv hch_ (by simp <;> omega), hats.mv hch_ (by simp <;> omega), hch_.lt hbsl, IsN.mv hch_ (by simp) (fun x hx => .inl hx) _ _ hka, IsN.mv hch_ (by simp) (fun x hx => .inl hx) _ _ hkb, hsl.mv hch_ (by simp) (fun x hx => .inl hx), IsNs.mv hch_ (by simp) (fun x hx => .inl hx) _ _ hkk, hch_.lt hib1, lob1, hb1.mv hch_ (by simp <;> omega), IsN.mv hch_ (by simp) (fun x hx => .inl hx) _ _ hct, trivial⟩
   exact hfin_
  ·refine ⟨?_, ?_, ?_, ?_, ?_, ?_, ?_, ?_, ?_, ?_, ?_, ?_, ?_, ?_, ?_, ?_, ?_, ?_, ?_, ?_, ?_, ?_, ?_, ?_, ?_, ?_, ?_, ?_, ?_, ?_, ?_, ?_, ?_, ?_, ?_, ?_, ?_, trivial⟩
   ·exact HOb.pure ⟨rfl, trivial⟩ rfl rfl (fun _ _ => d_move rfl)
   ·refine ⟨⟨rfl, trivial⟩, fun ph_ hp_ H2 w hW => ?_⟩
    rcases memN_or hp_ with rfl | hp_
    ·have hW0 := hW
     replace hW : A2_0 H2 w := hW
     rw [hA2_0] at hW
     obtain ⟨hC, hbb, hbr, hmet, htold, hbtlt, hatn, hats, hbsl, hka, hkb, hsl, hkk, hib1, lob1, hb1, hct, _⟩ := hW
     exact Det.ohc rfl hW0 (d_load1 Tryd.underlying83 rfl rfl (hb1 0 _ rfl))
    obtain rfl := memN_one hp_
    ·have hW0 := hW
     replace hW : A2_1 H2 w := hW
     rw [hA2_1] at hW
     obtain ⟨hC, hbb, hbr, hmet, htold, hbtlt, hatn, hats, hbsl, hka, hkb, hsl, hkk, hib1, lob1, hb1, hct, hpv4, _⟩ := hW
     exact Det.ohc rfl hW0 (d_load1 Tryd.underlying83 rfl rfl (hb1 0 _ rfl))
   ·exact HOb.pure trivial rfl rfl (fun _ _ => d_nil rfl)
   ·exact HOb.pure trivial rfl rfl (fun _ _ => d_fieldAddrQ Tryd.underlying112 (m := 0) sz110 rfl rfl rfl)
   ·refine ⟨trivial, fun ph_ hp_ H2 w hW => ?_⟩
    rcases memN_or hp_ with rfl | hp_
    ·have hW0 := hW
     replace hW : A2_0 H2 w := hW
     rw [hA2_0] at hW
     obtain ⟨hC, hbb, hbr, hmet, htold, hbtlt, hatn, hats, hbsl, hka, hkb, hsl, hkk, hib1, lob1, hb1, hct, _⟩ := hW
     exact Det.ohc rfl hW0 (d_load1 Tryd.underlying110 rfl rfl (hatn 2 _ rfl))
    obtain rfl := memN_one hp_
    ·have hW0 := hW
     replace hW : A2_1 H2 w := hW
     rw [hA2_1] at hW
     obtain ⟨hC, hbb, hbr, hmet, htold, hbtlt, hatn, hats, hbsl, hka, hkb, hsl, hkk, hib1, lob1, hb1, hct, hpv4, _⟩ := hW
     exact Det.ohc rfl hW0 (d_load1 Tryd.underlying110 rfl rfl (hatn 2 _ rfl))
   ·refine ⟨trivial, fun ph_ hp_ H2 w hW => ?_⟩
    rcases memN_or hp_ with rfl | hp_
    ·have hW0 := hW
     replace hW : A2_0 H2 w := hW
     rw [hA2_0] at hW
     obtain ⟨hC, hbb, hbr, hmet, htold, hbtlt, hatn, hats, hbsl, hka, hkb, hsl, hkk, hib1, lob1, hb1, hct, _⟩ := hW
     exact Det.ohc rfl hW0 (d_ixSQ (j := 1) (q := osl + 1) Tryd.underlying110 sz83 rfl rfl rfl (by omega) rfl)
    obtain rfl := memN_one hp_
    ·have hW0 := hW
     replace hW : A2_1 H2 w := hW
     rw [hA2_1] at hW
     obtain ⟨hC, hbb, hbr, hmet, htold, hbtlt, hatn, hats, hbsl, hka, hkb, hsl, hkk, hib1, lob1, hb1, hct, hpv4, _⟩ := hW
     exact Det.ohc rfl hW0 (d_ixSQ (j := 1) (q := osl + 1) Tryd.underlying110 sz83 rfl rfl rfl (by omega) rfl)
   ·refine ⟨trivial, fun ph_ hp_ H2 w hW => ?_⟩
    rcases memN_or hp_ with rfl | hp_
    ·have hW0 := hW
     replace hW : A2_0 H2 w := hW
     rw [hA2_0] at hW
     obtain ⟨hC, hbb, hbr, hmet, htold, hbtlt, hatn, hats, hbsl, hka, hkb, hsl, hkk, hib1, lob1, hb1, hct, _⟩ := hW
     exact Det.ohc rfl hW0 (d_load1 Tryd.underlying83 rfl rfl (hats 1 _ rfl))
    obtain rfl := memN_one hp_
    ·have hW0 := hW
     replace hW : A2_1 H2 w := hW
     rw [hA2_1] at hW
     obtain ⟨hC, hbb, hbr, hmet, htold, hbtlt, hatn, hats, hbsl, hka, hkb, hsl, hkk, hib1, lob1, hb1, hct, hpv4, _⟩ := hW
     exact Det.ohc rfl hW0 (d_load1 Tryd.underlying83 rfl rfl (hats 1 _ rfl))
   ·exact HOb.pure ⟨rfl, trivial⟩ rfl rfl (fun _ _ => d_move rfl)
   ·refine ⟨trivial, fun ph_ hp_ H2 w hW => ?_⟩
    obtain rfl := memN_one hp_
    replace hW : A2_0 H2 w := hW
    rw [hA2_0] at hW
    obtain ⟨hC, hbb, hbr, hmet, htold, hbtlt, hatn, hats, hbsl, hka, hkb, hsl, hkk, hib1, lob1, hb1, hct, _⟩ := hW
    refine Ok1.mono (ok_callv (first := #[]) (captured := #[(vp b1)]) rfl c95 rfl (pub_calls (X := [bt]) (ks := [a, b]) (i := 0) (t1 := a) hT hjoin (wrk_pub hfa.2) _ (Nat.le_trans hnb hC.size) (hT _ _ (hC.below hnb (by simpa using hnbt)) hw0) (by simp; exact hbtlt) (hb1 0 _ rfl) hatn rfl hats (by simp) rfl hka)) ?_
    rintro pv4 w' ⟨hpv4, hch0_⟩
    have hch_ : Ch [] _ w' := Gr.ch hch0_
    have hC := hC.trans (hch_.mono (by simp))
    have hbb := hbb.mv hch_ (by simp <;> omega)
    have hbr := hbr.mv hch_ (by simp <;> omega)
    have hmet := hmet.mv hch_ (by simp <;> omega)
    have htold := htold.mv hch_ (by simp <;> omega)
    have hbtlt := hch_.lt hbtlt
    have hatn := hatn.mv hch_ (by simp <;> omega)
    have hats := hats.mv hch_ (by simp <;> omega)
    have hbsl := hch_.lt hbsl
    have hka : IsN w' [bt] a (vp ba) := IsN.mv hch_ (by simp) (fun x hx => .inl hx) _ _ hka
    have hkb : IsN w' [bt] b (vp bb2) := IsN.mv hch_ (by simp) (fun x hx => .inl hx) _ _ hkb
    have hsl : SlA w' [bt] (.slice (some ⟨bsl, osl, none⟩) 2 cap) 2 [(vp ba), (vp bb2)] := hsl.mv hch_ (by simp) (fun x hx => .inl hx)
    have hkk : IsNs w' [bt] [a, b] [(vp ba), (vp bb2)] := IsNs.mv hch_ (by simp) (fun x hx => .inl hx) _ _ hkk
    have hib1 := hch_.lt hib1
    have hb1 := hb1.mv hch_ (by simp <;> omega)
    have hct : IsN w' [bt] (.mk 5 0 [a, b]) pc := IsN.mv hch_ (by simp) (fun x hx => .inl hx) _ _ hct
    have hfin_ : A2_1 (updV H2 8 pv4) w' := by rw [hA2_1]; exact ⟨hC, hbb, hbr, hmet, htold, hbtlt, hatn, hats, hbsl, hka, hkb, hsl, hkk, hib1, lob1, hb1, hct, hpv4, trivial⟩
    exact fin_ rfl ⟨hfin_, rfl⟩
   ·refine ⟨trivial, fun ph_ hp_ H2 w hW => ?_⟩
    obtain rfl := memN_one hp_
    replace hW : A2_1 H2 w := hW
    rw [hA2_1] at hW
    obtain ⟨hC, hbb, hbr, hmet, htold, hbtlt, hatn, hats, hbsl, hka, hkb, hsl, hkk, hib1, lob1, hb1, hct, hpv4, _⟩ := hW
    refine Ok1.mono (ok_buildSlice (cells := #[(vp bb2), (H2 8)]) Tryd.underlying110 zz83 rfl (by decide) (by decide) (by exact fill2 rfl (IsN.cellsv hpv4))) ?_
    rintro _ w' ⟨b5, rfl, hnb_⟩
    have hch_ : Ch [] _ w' := hnb_.ch
    have lo_ := hnb_.lo hC.size
    have ne_b1_b5 := hnb_.gt hib1
    have hC := hC.trans (hch_.mono (by simp))
    have hbb := hbb.mv hch_ (by simp <;> omega)
    have hbr := hbr.mv hch_ (by simp <;> omega)
    have hmet := hmet.mv hch_ (by simp <;> omega)
    have htold := htold.mv hch_ (by simp <;> omega)
    have hbtlt := hch_.lt hbtlt
    have hatn := hatn.mv hch_ (by simp <;> omega)
    have hats := hats.mv hch_ (by simp <;> omega)
    have hbsl := hch_.lt hbsl
    have hka : IsN w' [bt] a (vp ba) := IsN.mv hch_ (by simp) (fun x hx => .inl hx) _ _ hka
    have hkb : IsN w' [bt] b (vp bb2) := IsN.mv hch_ (by simp) (fun x hx => .inl hx) _ _ hkb
    have hsl : SlA w' [bt] (.slice (some ⟨bsl, osl, none⟩) 2 cap) 2 [(vp ba), (vp bb2)] := hsl.mv hch_ (by simp) (fun x hx => .inl hx)
    have hkk : IsNs w' [bt] [a, b] [(vp ba), (vp bb2)] := IsNs.mv hch_ (by simp) (fun x hx => .inl hx) _ _ hkk
    have hib1 := hch_.lt hib1
    have hb1 := hb1.mv hch_ (by simp <;> omega)
    have hct : IsN w' [bt] (.mk 5 0 [a, b]) pc := IsN.mv hch_ (by simp) (fun x hx => .inl hx) _ _ hct
    have hpv4 : IsN w' [bt] (pubOf a) (H2 8) := IsN.mv hch_ (by simp) (fun x hx => .inl hx) _ _ hpv4
    have hib5 : b5 < w'.heap.size := hnb_.lt
    have lob5 : w0.heap.size ≤ b5 := lo_
    have hb5 : At w' b5 0 [(vp bb2), (H2 8)] := hnb_.at
    have ne_b1_b5 : b1 < b5 := ne_b1_b5
    have hfin_ : A2_2 (updV H2 9 (vS b5 0 2 2)) w' := by rw [hA2_2]; exact ⟨hC, hbb, hbr, hmet, htold, hbtlt, hatn, hats, hbsl, hka, hkb, hsl, hkk, hib1, lob1, hb1, hct, hpv4, hib5, lob5, hb5, ne_b1_b5, rfl, trivial⟩
    exact fin_ rfl ⟨hfin_, rfl⟩
   ·refine ⟨trivial, fun ph_ hp_ H2 w hW => ?_⟩
    obtain rfl := memN_one hp_
    replace hW : A2_2 H2 w := hW
    rw [hA2_2] at hW
    obtain ⟨hC, hbb, hbr, hmet, htold, hbtlt, hatn, hats, hbsl, hka, hkb, hsl, hkk, hib1, lob1, hb1, hct, hpv4, hib5, lob5, hb5, ne_b1_b5, hv2_9, _⟩ := hW
    refine Ok1.sub (L' := [(63, (vp bb)), (72, (vS (blk (H2 9)) 0 2 2))]) ⟨rfl, congrArg some hv2_9, trivial⟩ (Ok1.mono (ok_call c45 rfl (ih g1 (by omega) ([b, pubOf a]) m m1 false bb bt br bm rl _ _ _ _ (by simp) hq1 (fun t ht => by simp at ht; first | (rcases ht with rfl | rfl <;> assumption) | (subst ht; assumption)) (Nat.le_trans hnb hC.size) hnbt (hT _ _ (hC.below hnb (by simpa using hnbt)) hw0) ⟨hbb, hbr, hmet, hne1, hne2, hne3⟩ htold (.inr ⟨_, 0, _, rfl, by simp <;> omega, hib5, hb5⟩) (IsNs.of_two hkb hpv4))) ?_)
    rintro _ w' ⟨rfl, htold, hch0_⟩
    have hch_ : Ch [bt] _ w' := hch0_
    have hC := hC.trans (hch_.mono (by simp))
    have hbb := hbb.mv hch_ (by simp <;> omega)
    have hbr := hbr.mv hch_ (by simp <;> omega)
    have hmet := hmet.mv hch_ (by simp <;> omega)
    have hbtlt := hch_.lt hbtlt
    have hatn := hatn.mv hch_ (by simp <;> omega)
    have hats := hats.mv hch_ (by simp <;> omega)
    have hbsl := hch_.lt hbsl
    have hka : IsN w' [bt] a (vp ba) := IsN.mv hch_ (by simp) (fun x hx => .inl hx) _ _ hka
    have hkb : IsN w' [bt] b (vp bb2) := IsN.mv hch_ (by simp) (fun x hx => .inl hx) _ _ hkb
    have hsl : SlA w' [bt] (.slice (some ⟨bsl, osl, none⟩) 2 cap) 2 [(vp ba), (vp bb2)] := hsl.mv hch_ (by simp) (fun x hx => .inl hx)
    have hkk : IsNs w' [bt] [a, b] [(vp ba), (vp bb2)] := IsNs.mv hch_ (by simp) (fun x hx => .inl hx) _ _ hkk
    have hib1 := hch_.lt hib1
    have hb1 := hb1.mv hch_ (by simp <;> omega)
    have hct : IsN w' [bt] (.mk 5 0 [a, b]) pc := IsN.mv hch_ (by simp) (fun x hx => .inl hx) _ _ hct
    have hpv4 : IsN w' [bt] (pubOf a) (H2 8) := IsN.mv hch_ (by simp) (fun x hx => .inl hx) _ _ hpv4
    have hib5 := hch_.lt hib5
    have hb5 := hb5.mv hch_ (by simp <;> omega)
    have hfin_ : A2_3 (updV H2 10 vf) w' := by rw [hA2_3]; exact ⟨hC, hbb, hbr, hmet, htold, hbtlt, hatn, hats, hbsl, hka, hkb, hsl, hkk, hib1, lob1, hb1, hct, hpv4, hib5, lob5, hb5, ne_b1_b5, hv2_9, trivial⟩
    exact fin_ rfl ⟨hfin_, rfl⟩
   ·exact HOb.pure trivial rfl rfl (fun _ _ => d_move rfl)
   ·exact HOb.pureG ⟨rfl, trivial⟩ rfl rfl (fun _ => rfl) rfl (fun _ _ => d_move rfl)
   ·exact HOb.factG hA2_3 ⟨rfl, trivial⟩ rfl rfl rfl rfl (fun _ => rfl) rfl (fun H2 w ⟨_, _, _, _, _, _, _, _, _, _, _, _, _, _, _, hb1, _⟩ => d_load1 Tryd.underlying83 rfl rfl (hb1 0 _ rfl))
   ·exact HOb.pureG trivial rfl rfl (fun _ => rfl) rfl (fun _ _ => d_nil rfl)
   ·exact HOb.pureG trivial rfl rfl (fun _ => rfl) rfl (fun _ _ => d_fieldAddrQ Tryd.underlying112 (m := 0) sz110 rfl rfl rfl)
   ·exact HOb.factG hA2_3 trivial rfl rfl rfl rfl (fun _ => rfl) rfl (fun H2 w ⟨_, _, _, _, _, _, hatn, _⟩ => d_load1 Tryd.underlying110 rfl rfl (hatn 2 _ rfl))
   ·refine ⟨trivial, fun ph_ hp_ H2 w hW => ?_⟩
    obtain rfl := memN_one hp_
    have hW0 := hW
    replace hW : A2_3 H2 w := hW
    rw [hA2_3] at hW
    obtain ⟨hC, hbb, hbr, hmet, htold, hbtlt, hatn, hats, hbsl, hka, hkb, hsl, hkk, hib1, lob1, hb1, hct, hpv4, hib5, lob5, hb5, ne_b1_b5, hv2_9, _⟩ := hW
    exact ⟨(some false), _, rfl, rfl, Det.ohc rfl hW0 (d_ixSQ (j := 0) (q := osl + 0) Tryd.underlying110 sz83 rfl rfl rfl (by omega) rfl)⟩
   ·exact HOb.factG hA2_3 trivial rfl rfl rfl rfl (fun _ => rfl) rfl (fun H2 w ⟨_, _, _, _, _, _, _, hats, _⟩ => d_load1 Tryd.underlying83 rfl rfl (hats 0 _ rfl))
   ·exact HOb.pureG ⟨rfl, trivial⟩ rfl rfl (fun _ => rfl) rfl (fun _ _ => d_move rfl)
   ·refine ⟨trivial, fun ph_ hp_ H2 w hW => ?_⟩
    obtain rfl := memN_one hp_
    replace hW : A2_3 H2 w := hW
    rw [hA2_3] at hW
    obtain ⟨hC, hbb, hbr, hmet, htold, hbtlt, hatn, hats, hbsl, hka, hkb, hsl, hkk, hib1, lob1, hb1, hct, hpv4, hib5, lob5, hb5, ne_b1_b5, hv2_9, _⟩ := hW
    refine ⟨(some false), _, rfl, rfl, Ok1.mono (ok_buildSlice (cells := #[(vp ba), pc]) Tryd.underlying110 zz83 rfl (by decide) (by decide) (by exact fill2 rfl (IsN.cellsv hct))) ?_⟩
    rintro _ w' ⟨b6, rfl, hnb_⟩
    have hch_ : Ch [] _ w' := hnb_.ch
    have lo_ := hnb_.lo hC.size
    have ne_b1_b6 := hnb_.gt hib1
    have ne_b5_b6 := hnb_.gt hib5
    have hC := hC.trans (hch_.mono (by simp))
    have hbb := hbb.mv hch_ (by simp <;> omega)
    have hbr := hbr.mv hch_ (by simp <;> omega)
    have hmet := hmet.mv hch_ (by simp <;> omega)
    have htold := htold.mv hch_ (by simp <;> omega)
    have hbtlt := hch_.lt hbtlt
    have hatn := hatn.mv hch_ (by simp <;> omega)
    have hats := hats.mv hch_ (by simp <;> omega)
    have hbsl := hch_.lt hbsl
    have hka : IsN w' [bt] a (vp ba) := IsN.mv hch_ (by simp) (fun x hx => .inl hx) _ _ hka
    have hkb : IsN w' [bt] b (vp bb2) := IsN.mv hch_ (by simp) (fun x hx => .inl hx) _ _ hkb
    have hsl : SlA w' [bt] (.slice (some ⟨bsl, osl, none⟩) 2 cap) 2 [(vp ba), (vp bb2)] := hsl.mv hch_ (by simp) (fun x hx => .inl hx)
    have hkk : IsNs w' [bt] [a, b] [(vp ba), (vp bb2)] := IsNs.mv hch_ (by simp) (fun x hx => .inl hx) _ _ hkk
    have hib1 := hch_.lt hib1
    have hb1 := hb1.mv hch_ (by simp <;> omega)
    have hct : IsN w' [bt] (.mk 5 0 [a, b]) pc := IsN.mv hch_ (by simp) (fun x hx => .inl hx) _ _ hct
    have hpv4 : IsN w' [bt] (pubOf a) (H2 8) := IsN.mv hch_ (by simp) (fun x hx => .inl hx) _ _ hpv4
    have hib5 := hch_.lt hib5
    have hb5 := hb5.mv hch_ (by simp <;> omega)
    have hib6 : b6 < w'.heap.size := hnb_.lt
    have lob6 : w0.heap.size ≤ b6 := lo_
    have hb6 : At w' b6 0 [(vp ba), pc] := hnb_.at
    have ne_b1_b6 : b1 < b6 := ne_b1_b6
    have ne_b5_b6 : (blk (H2 9)) < b6 := ne_b5_b6
    have hfin_ : A2_4 (updV H2 20 (vS b6 0 2 2)) w' := by rw [hA2_4]; exact ⟨hC, hbb, hbr, hmet, htold, hbtlt, hatn, hats, hbsl, hka, hkb, hsl, hkk, hib1, lob1, hb1, hct, hpv4, hib5, lob5, hb5, ne_b1_b5, hv2_9, hib6, lob6, hb6, ne_b1_b6, ne_b5_b6, rfl, trivial⟩
    exact fin_ rfl ⟨hfin_, rfl⟩
   ·refine ⟨trivial, fun ph_ hp_ H2 w hW => ?_⟩
    obtain rfl := memN_one hp_
    replace hW : A2_4 H2 w := hW
    rw [hA2_4] at hW
    obtain ⟨hC, hbb, hbr, hmet, htold, hbtlt, hatn, hats, hbsl, hka, hkb, hsl, hkk, hib1, lob1, hb1, hct, hpv4, hib5, lob5, hb5, ne_b1_b5, hv2_9, hib6, lob6, hb6, ne_b1_b6, ne_b5_b6, hv2_20, _⟩ := hW
    refine ⟨(some false), _, rfl, rfl, Ok1.sub (L' := [(74, vf), (75, (vp bb)), (83, (vS (blk (H2 20)) 0 2 2))]) ⟨rfl, rfl, congrArg some hv2_20, trivial⟩ (Ok1.mono (ok_call c45 rfl (ih g2 (by omega) ([a, .mk 5 0 [a, b]]) m1 m' true bb bt br bm rl _ _ _ _ (by simp) hq2 (fun t ht => by simp at ht; first | (rcases ht with rfl | rfl <;> assumption) | (subst ht; assumption)) (Nat.le_trans hnb hC.size) hnbt (hT _ _ (hC.below hnb (by simpa using hnbt)) hw0) ⟨hbb, hbr, hmet, hne1, hne2, hne3⟩ htold (.inr ⟨_, 0, _, rfl, by simp <;> omega, hib6, hb6⟩) (IsNs.of_two hka hct))) ?_)⟩
    rintro _ w' ⟨rfl, htold, hch0_⟩
    have hch_ : Ch [bt] _ w' := hch0_
    have hC := hC.trans (hch_.mono (by simp))
    have hbb := hbb.mv hch_ (by simp <;> omega)
    have hbr := hbr.mv hch_ (by simp <;> omega)
    have hmet := hmet.mv hch_ (by simp <;> omega)
    have hbtlt := hch_.lt hbtlt
    have hatn := hatn.mv hch_ (by simp <;> omega)
    have hats := hats.mv hch_ (by simp <;> omega)
    have hbsl := hch_.lt hbsl
    have hka : IsN w' [bt] a (vp ba) := IsN.mv hch_ (by simp) (fun x hx => .inl hx) _ _ hka
    have hkb : IsN w' [bt] b (vp bb2) := IsN.mv hch_ (by simp) (fun x hx => .inl hx) _ _ hkb
    have hsl : SlA w' [bt] (.slice (some ⟨bsl, osl, none⟩) 2 cap) 2 [(vp ba), (vp bb2)] := hsl.mv hch_ (by simp) (fun x hx => .inl hx)
    have hkk : IsNs w' [bt] [a, b] [(vp ba), (vp bb2)] := IsNs.mv hch_ (by simp) (fun x hx => .inl hx) _ _ hkk
    have hib1 := hch_.lt hib1
    have hb1 := hb1.mv hch_ (by simp <;> omega)
    have hct : IsN w' [bt] (.mk 5 0 [a, b]) pc := IsN.mv hch_ (by simp) (fun x hx => .inl hx) _ _ hct
    have hpv4 : IsN w' [bt] (pubOf a) (H2 8) := IsN.mv hch_ (by simp) (fun x hx => .inl hx) _ _ hpv4
    have hib5 := hch_.lt hib5
    have hb5 := hb5.mv hch_ (by simp <;> omega)
    have hib6 := hch_.lt hib6
    have hb6 := hb6.mv hch_ (by simp <;> omega)
    have hfin_ : A2_5 (updV H2 21 vt) w' := by rw [hA2_5]; exact ⟨hC, hbb, hbr, hmet, htold, hbtlt, hatn, hats, hbsl, hka, hkb, hsl, hkk, hib1, lob1, hb1, hct, hpv4, hib5, lob5, hb5, ne_b1_b5, hv2_9, hib6, lob6, hb6, ne_b1_b6, ne_b5_b6, hv2_20, trivial⟩
    exact fin_ rfl ⟨hfin_, rfl⟩
   ·exact HOb.pure trivial rfl rfl (fun _ _ => d_pick (b := false) rfl rfl)
   ·exact HOb.pure trivial rfl rfl (fun _ _ => d_move rfl)
   ·exact HOb.skip ⟨rfl, trivial⟩ rfl rfl (fun _ => rfl) (by decide) rfl (fun _ => rfl)
   ·exact HOb.skip trivial rfl rfl (fun _ => rfl) (by decide) rfl (fun _ => rfl)
   ·exact HOb.skip trivial rfl rfl (fun _ => rfl) (by decide) rfl (fun _ => rfl)
   ·exact HOb.skip trivial rfl rfl (fun _ => rfl) (by decide) rfl (fun _ => rfl)
   ·exact HOb.skip trivial rfl rfl (fun _ => rfl) (by decide) rfl (fun _ => rfl)
   ·exact HOb.skip trivial rfl rfl (fun _ => rfl) (by decide) rfl (fun _ => rfl)
   ·exact HOb.skip ⟨rfl, trivial⟩ rfl rfl (fun _ => rfl) (by decide) rfl (fun _ => rfl)
   ·exact HOb.skip ⟨rfl, trivial⟩ rfl rfl (fun _ => rfl) (by decide) rfl (fun _ => rfl)
   ·exact HOb.skip trivial rfl rfl (fun _ => rfl) (by decide) rfl (fun _ => rfl)
   ·exact HOb.skip trivial rfl rfl (fun _ => rfl) (by decide) rfl (fun _ => rfl)
   ·exact HOb.skip trivial rfl rfl (fun _ => rfl) (by decide) rfl (fun _ => rfl)
   ·exact HOb.pure trivial rfl rfl (fun _ _ => d_pick (b := true) rfl rfl)
   ·exact HOb.pure trivial rfl rfl (fun _ _ => d_assign rfl)
  ·intro ac w H2 hW hF
   replace hW : A2_5 H2 w := hW
   rw [hA2_5] at hW
   obtain ⟨hC, hbb, hbr, hmet, htold, hbtlt, hatn, hats, hbsl, hka, hkb, hsl, hkk, hib1, lob1, hb1, hct, hpv4, hib5, lob5, hb5, ne_b1_b5, hv2_9, hib6, lob6, hb6, ne_b1_b6, ne_b5_b6, hv2_20, _⟩ := hW
   clear hA2_0 A2_0 hA2_1 A2_1 hA2_2 A2_2 hA2_3 A2_3 hA2_4 A2_4 hA2_5 A2_5
   have hF := hF.sub (L' := [(0, (vp bb)), (1, (vp bn)), (3, (vp b1)), (4, vt), (5, (Value.func (.func 95) #[] #[(vp b1)])), (6, pc), (11, (vI 4)), (12, vf), (14, vf), (56, vt)]) ⟨rfl, rfl, rfl, rfl, rfl, rfl, rfl, rfl, rfl, rfl, trivial⟩
   refine then_n ?_
   refine wp_ret ?_
   refine block_ret ?_
   refine then_ret ?_
   refine body_ret hF (results1 Tryd.results82 (RV.tmp hF rfl)) ?_
   exact ⟨rfl, htold, hC⟩
 ·skip
  obtain ⟨A3_0, hA3_0⟩ : ∃ A : (Nat → Value) → World → Prop, A = fun _ w => (Ch [bt] w0 w) ∧ (At w bb 0 [(vB W.dh), (vB W.kem), (vp br), (Value.map (some bt))]) ∧ (At w br 0 [rl, (Value.map (some bm))]) ∧ (MapIs w bm met) ∧ (MapIs w bt m) ∧ (bt < w.heap.size) ∧ (At w bn 0 [(vI 4), (vI n), (vS bsl osl 2 cap), (vT (txt (.mk 4 n [a, b])))]) ∧ (At w bsl osl [(vp ba), (vp bb2)]) ∧ (bsl < w.heap.size) ∧ (IsN w [bt] a (vp ba)) ∧ (IsN w [bt] b (vp bb2)) ∧ (SlA w [bt] (.slice (some ⟨bsl, osl, none⟩) 2 cap) 2 [(vp ba), (vp bb2)]) ∧ (IsNs w [bt] [a, b] [(vp ba), (vp bb2)]) ∧ (b1 < w.heap.size) ∧ (w0.heap.size ≤ b1) ∧ (At w b1 0 [(vp bn)]) ∧ (IsN w [bt] (.mk 5 0 [a, b]) pc) ∧ True := ⟨_, rfl⟩
  obtain ⟨A3_1, hA3_1⟩ : ∃ A : (Nat → Value) → World → Prop, A = fun H3 w => (Ch [bt] w0 w) ∧ (At w bb 0 [(vB W.dh), (vB W.kem), (vp br), (Value.map (some bt))]) ∧ (At w br 0 [rl, (Value.map (some bm))]) ∧ (MapIs w bm met) ∧ (MapIs w bt m) ∧ (bt < w.heap.size) ∧ (At w bn 0 [(vI 4), (vI n), (vS bsl osl 2 cap), (vT (txt (.mk 4 n [a, b])))]) ∧ (At w bsl osl [(vp ba), (vp bb2)]) ∧ (bsl < w.heap.size) ∧ (IsN w [bt] a (vp ba)) ∧ (IsN w [bt] b (vp bb2)) ∧ (SlA w [bt] (.slice (some ⟨bsl, osl, none⟩) 2 cap) 2 [(vp ba), (vp bb2)]) ∧ (IsNs w [bt] [a, b] [(vp ba), (vp bb2)]) ∧ (b1 < w.heap.size) ∧ (w0.heap.size ≤ b1) ∧ (At w b1 0 [(vp bn)]) ∧ (IsN w [bt] (.mk 5 0 [a, b]) pc) ∧ (IsN w [bt] (pubOf a) (H3 8)) ∧ True := ⟨_, rfl⟩
  obtain ⟨A3_2, hA3_2⟩ : ∃ A : (Nat → Value) → World → Prop, A = fun H3 w => (Ch [bt] w0 w) ∧ (At w bb 0 [(vB W.dh), (vB W.kem), (vp br), (Value.map (some bt))]) ∧ (At w br 0 [rl, (Value.map (some bm))]) ∧ (MapIs w bm met) ∧ (MapIs w bt m) ∧ (bt < w.heap.size) ∧ (At w bn 0 [(vI 4), (vI n), (vS bsl osl 2 cap), (vT (txt (.mk 4 n [a, b])))]) ∧ (At w bsl osl [(vp ba), (vp bb2)]) ∧ (bsl < w.heap.size) ∧ (IsN w [bt] a (vp ba)) ∧ (IsN w [bt] b (vp bb2)) ∧ (SlA w [bt] (.slice (some ⟨bsl, osl, none⟩) 2 cap) 2 [(vp ba), (vp bb2)]) ∧ (IsNs w [bt] [a, b] [(vp ba), (vp bb2)]) ∧ (b1 < w.heap.size) ∧ (w0.heap.size ≤ b1) ∧ (At w b1 0 [(vp bn)]) ∧ (IsN w [bt] (.mk 5 0 [a, b]) pc) ∧ (IsN w [bt] (pubOf a) (H3 8)) ∧ ((blk (H3 9)) < w.heap.size) ∧ (w0.heap.size ≤ (blk (H3 9))) ∧ (At w (blk (H3 9)) 0 [(vp bb2), (H3 8)]) ∧ (b1 < (blk (H3 9))) ∧ (H3 9 = (vS (blk (H3 9)) 0 2 2)) ∧ True := ⟨_, rfl⟩
  obtain ⟨A3_3, hA3_3⟩ : ∃ A : (Nat → Value) → World → Prop, A = fun H3 w => (Ch [bt] w0 w) ∧ (At w bb 0 [(vB W.dh), (vB W.kem), (vp br), (Value.map (some bt))]) ∧ (At w br 0 [rl, (Value.map (some bm))]) ∧ (MapIs w bm met) ∧ (MapIs w bt m1) ∧ (bt < w.heap.size) ∧ (At w bn 0 [(vI 4), (vI n), (vS bsl osl 2 cap), (vT (txt (.mk 4 n [a, b])))]) ∧ (At w bsl osl [(vp ba), (vp bb2)]) ∧ (bsl < w.heap.size) ∧ (IsN w [bt] a (vp ba)) ∧ (IsN w [bt] b (vp bb2)) ∧ (SlA w [bt] (.slice (some ⟨bsl, osl, none⟩) 2 cap) 2 [(vp ba), (vp bb2)]) ∧ (IsNs w [bt] [a, b] [(vp ba), (vp bb2)]) ∧ (b1 < w.heap.size) ∧ (w0.heap.size ≤ b1) ∧ (At w b1 0 [(vp bn)]) ∧ (IsN w [bt] (.mk 5 0 [a, b]) pc) ∧ (IsN w [bt] (pubOf a) (H3 8)) ∧ ((blk (H3 9)) < w.heap.size) ∧ (w0.heap.size ≤ (blk (H3 9))) ∧ (At w (blk (H3 9)) 0 [(vp bb2), (H3 8)]) ∧ (b1 < (blk (H3 9))) ∧ (H3 9 = (vS (blk (H3 9)) 0 2 2)) ∧ True := ⟨_, rfl⟩
  obtain ⟨A3_4, hA3_4⟩ : ∃ A : (Nat → Value) → World → Prop, A = fun H3 w => (Ch [bt] w0 w) ∧ (At w bb 0 [(vB W.dh), (vB W.kem), (vp br), (Value.map (some bt))]) ∧ (At w br 0 [rl, (Value.map (some bm))]) ∧ (MapIs w bm met) ∧ (MapIs w bt m1) ∧ (bt < w.heap.size) ∧ (At w bn 0 [(vI 4), (vI n), (vS bsl osl 2 cap), (vT (txt (.mk 4 n [a, b])))]) ∧ (At w bsl osl [(vp ba), (vp bb2)]) ∧ (bsl < w.heap.size) ∧ (IsN w [bt] a (vp ba)) ∧ (IsN w [bt] b (vp bb2)) ∧ (SlA w [bt] (.slice (some ⟨bsl, osl, none⟩) 2 cap) 2 [(vp ba), (vp bb2)]) ∧ (IsNs w [bt] [a, b] [(vp ba), (vp bb2)]) ∧ (b1 < w.heap.size) ∧ (w0.heap.size ≤ b1) ∧ (At w b1 0 [(vp bn)]) ∧ (IsN w [bt] (.mk 5 0 [a, b]) pc) ∧ (IsN w [bt] (pubOf a) (H3 8)) ∧ ((blk (H3 9)) < w.heap.size) ∧ (w0.heap.size ≤ (blk (H3 9))) ∧ (At w (blk (H3 9)) 0 [(vp bb2), (H3 8)]) ∧ (b1 < (blk (H3 9))) ∧ (H3 9 = (vS (blk (H3 9)) 0 2 2)) ∧ ((blk (H3 20)) < w.heap.size) ∧ (w0.heap.size ≤ (blk (H3 20))) ∧ (At w (blk (H3 20)) 0 [(vp ba), pc]) ∧ (b1 < (blk (H3 20))) ∧ ((blk (H3 9)) < (blk (H3 20))) ∧ (H3 20 = (vS (blk (H3 20)) 0 2 2)) ∧ True := ⟨_, rfl⟩
  obtain ⟨A3_5, hA3_5⟩ : ∃ A : (Nat → Value) → World → Prop, A = fun H3 w => (Ch [bt] w0 w) ∧ (At w bb 0 [(vB W.dh), (vB W.kem), (vp br), (Value.map (some bt))]) ∧ (At w br 0 [rl, (Value.map (some bm))]) ∧ (MapIs w bm met) ∧ (MapIs w bt m') ∧ (bt < w.heap.size) ∧ (At w bn 0 [(vI 4), (vI n), (vS bsl osl 2 cap), (vT (txt (.mk 4 n [a, b])))]) ∧ (At w bsl osl [(vp ba), (vp bb2)]) ∧ (bsl < w.heap.size) ∧ (IsN w [bt] a (vp ba)) ∧ (IsN w [bt] b (vp bb2)) ∧ (SlA w [bt] (.slice (some ⟨bsl, osl, none⟩) 2 cap) 2 [(vp ba), (vp bb2)]) ∧ (IsNs w [bt] [a, b] [(vp ba), (vp bb2)]) ∧ (b1 < w.heap.size) ∧ (w0.heap.size ≤ b1) ∧ (At w b1 0 [(vp bn)]) ∧ (IsN w [bt] (.mk 5 0 [a, b]) pc) ∧ (IsN w [bt] (pubOf a) (H3 8)) ∧ ((blk (H3 9)) < w.heap.size) ∧ (w0.heap.size ≤ (blk (H3 9))) ∧ (At w (blk (H3 9)) 0 [(vp bb2), (H3 8)]) ∧ (b1 < (blk (H3 9))) ∧ (H3 9 = (vS (blk (H3 9)) 0 2 2)) ∧ ((blk (H3 20)) < w.heap.size) ∧ (w0.heap.size ≤ (blk (H3 20))) ∧ (At w (blk (H3 20)) 0 [(vp ba), pc]) ∧ (b1 < (blk (H3 20))) ∧ ((blk (H3 9)) < (blk (H3 20))) ∧ (H3 20 = (vS (blk (H3 20)) 0 2 2)) ∧ True := ⟨_, rfl⟩
  refine region_hist mo (fun p_ H_ w_ => (([A3_0, A3_1, A3_2, A3_3, A3_4, A3_5] : List ((Nat → Value) → World → Prop)).getD p_ (fun _ _ => True)) H_ w_) [8, 9, 10, 20, 21] (rows := [hr_ [] [(0, (vp bb))] [0, 1, 2] (vp bb), hr_ [] [(3, (vp b1))] [0, 1] (vp bn), hr_ [(1, 64)] [] [0, 1] (vp bn), hr_ [(2, 65)] [] [0, 1] (vP bn 2), hr_ [(3, 66)] [] [0, 1] (vS bsl osl 2 cap), hr_ [(4, 67)] [] [0, 1] (vP bsl (osl + 1)), hr_ [(5, 68)] [] [0, 1] (vp bb2), hr_ [] [(5, (Value.func (.func 95) #[] #[(vp b1)]))] [0] (Value.func (.func 95) #[] #[(vp b1)]), ⟨[(7, 70)], [], [0], [8], fun H3 => H3 8, fun H3 K_ h_ => by simp only [h_ 8 (by simp)]⟩, ⟨[(6, 69), (8, 71)], [], [1], [9], fun H3 => H3 9, fun H3 K_ h_ => by simp only [h_ 9 (by simp)]⟩, hr_ [(0, 63), (9, 72)] [] [2] vf, hr_ [(10, 73)] [] [3] vf, hr_ [(11, 74)] [(0, (vp bb))] [3, 4] (vp bb), hr_ [(11, 74)] [(3, (vp b1))] [3] (vp bn), hr_ [(13, 76), (11, 74)] [] [3] (vp bn), hr_ [(14, 77), (11, 74)] [] [3] (vP bn 2), hr_ [(15, 78), (11, 74)] [] [3] (vS bsl osl 2 cap), hr_ [(16, 79), (11, 74)] [] [3] (vP bsl (osl + 0)), hr_ [(17, 80), (11, 74)] [] [3] (vp ba), hr_ [(11, 74)] [(6, pc)] [3] pc, ⟨[(18, 81), (19, 82), (11, 74)], [], [3], [20], fun H3 => H3 20, fun H3 K_ h_ => by simp only [h_ 20 (by simp)]⟩, hr_ [(12, 75), (20, 83), (11, 74)] [] [4] vf, hr_ [(11, 74), (21, 84)] [] [5] vf, hr_ [(22, 85)] [] [5] vf, hr_ [(23, 86)] [(0, (vp bb))] [5] (vp bb), hr_ [(24, 87), (23, 86)] [] [5] (vp bb), hr_ [(25, 88), (23, 86)] [] [5] (vp bb), hr_ [(26, 89), (23, 86)] [] [5] (vP bb 1), hr_ [(27, 90), (23, 86)] [] [5] vf, hr_ [(28, 91), (23, 86)] [] [5] vf, hr_ [(29, 92)] [(0, (vp bb))] [5] undef, hr_ [(29, 92)] [(6, pc)] [5] undef, hr_ [(31, 94), (29, 92)] [] [5] undef, hr_ [(30, 93), (32, 95), (29, 92)] [] [5] undef, hr_ [(29, 92), (33, 96), (23, 86)] [] [5] vf, hr_ [(23, 86), (34, 97)] [] [5] vf, hr_ [(35, 98)] [] [5] vf]) (by kernel_rfl) hF (fun H_ => ?_) ?_ ?_
  ·have hch_ := Ch.drew w
   have hfin_ : A3_0 H_ { w with drawn := w.drawn + 1 } := by rw [hA3_0]; exact ⟨hC.trans (hch_.mono (by simp)), hbb.mv hch_ (by simp <;> omega), hbr.mv hch_ (by simp <;> omega), hmet.mv hch_ (by simp <;> omega), htold.mv hch_ (by simp <;> omega), hch_.lt hbtlt, hatn.mv hch_ (by simp <;> omega), hats.mv hch_ (by simp <;> omega), hch_.lt hbsl, IsN.mv hch_ (by simp) (fun x hx => .inl hx) _ _ hka, IsN.mv hch_ (by simp) (fun x hx => .inl hx) _ _ hkb, hsl.mv hch_ (by simp) (fun x hx => .inl hx), IsNs.mv hch_ (by simp) (fun x hx => .inl hx) _ _ hkk, hch_.lt hib1, lob1, hb1.mv hch_ (by simp <;> omega), IsN.mv hch_ (by simp) (fun x hx => .inl hx) _ _ hct, trivial⟩
   exact hfin_
  ·refine ⟨?_, ?_, ?_, ?_, ?_, ?_, ?_, ?_, ?_, ?_, ?_, ?_, ?_, ?_, ?_, ?_, ?_, ?_, ?_, ?_, ?_, ?_, ?_, ?_, ?_, ?_, ?_, ?_, ?_, ?_, ?_, ?_, ?_, ?_, ?_, ?_, ?_, trivial⟩
   ·exact HOb.pure ⟨rfl, trivial⟩ rfl rfl (fun _ _ => d_move rfl)
   ·refine ⟨⟨rfl, trivial⟩, fun ph_ hp_ H3 w hW => ?_⟩
    rcases memN_or hp_ with rfl | hp_
    ·have hW0 := hW
     replace hW : A3_0 H3 w := hW
     rw [hA3_0] at hW
     obtain ⟨hC, hbb, hbr, hmet, htold, hbtlt, hatn, hats, hbsl, hka, hkb, hsl, hkk, hib1, lob1, hb1, hct, _⟩ := hW
     exact Det.ohc rfl hW0 (d_load1 Tryd.underlying83 rfl rfl (hb1 0 _ rfl))
    obtain rfl := memN_one hp_
    ·have hW0 := hW
     replace hW : A3_1 H3 w := hW
     rw [hA3_1] at hW
     obtain ⟨hC, hbb, hbr, hmet, htold, hbtlt, hatn, hats, hbsl, hka, hkb, hsl, hkk, hib1, lob1, hb1, hct, hpv7, _⟩ := hW
     exact Det.ohc rfl hW0 (d_load1 Tryd.underlying83 rfl rfl (hb1 0 _ rfl))
   ·exact HOb.pure trivial rfl rfl (fun _ _ => d_nil rfl)
   ·exact HOb.pure trivial rfl rfl (fun _ _ => d_fieldAddrQ Tryd.underlying112 (m := 0) sz110 rfl rfl rfl)
   ·refine ⟨trivial, fun ph_ hp_ H3 w hW => ?_⟩
    rcases memN_or hp_ with rfl | hp_
    ·have hW0 := hW
     replace hW : A3_0 H3 w := hW
     rw [hA3_0] at hW
     obtain ⟨hC, hbb, hbr, hmet, htold, hbtlt, hatn, hats, hbsl, hka, hkb, hsl, hkk, hib1, lob1, hb1, hct, _⟩ := hW
     exact Det.ohc rfl hW0 (d_load1 Tryd.underlying110 rfl rfl (hatn 2 _ rfl))
    obtain rfl := memN_one hp_
    ·have hW0 := hW
     replace hW : A3_1 H3 w := hW
     rw [hA3_1] at hW
     obtain ⟨hC, hbb, hbr, hmet, htold, hbtlt, hatn, hats, hbsl, hka, hkb, hsl, hkk, hib1, lob1, hb1, hct, hpv7, _⟩ := hW
     exact Det.ohc rfl hW0 (d_load1 Tryd.underlying110 rfl rfl (hatn 2 _ rfl))
   ·refine ⟨trivial, fun ph_ hp_ H3 w hW => ?_⟩
    rcases memN_or hp_ with rfl | hp_
    ·have hW0 := hW
     replace hW : A3_0 H3 w := hW
     rw [hA3_0] at hW
     obtain ⟨hC, hbb, hbr, hmet, htold, hbtlt, hatn, hats, hbsl, hka, hkb, hsl, hkk, hib1, lob1, hb1, hct, _⟩ := hW
     exact Det.ohc rfl hW0 (d_ixSQ (j := 1) (q := osl + 1) Tryd.underlying110 sz83 rfl rfl rfl (by omega) rfl)
    obtain rfl := memN_one hp_
    ·have hW0 := hW
     replace hW : A3_1 H3 w := hW
     rw [hA3_1] at hW
     obtain ⟨hC, hbb, hbr, hmet, htold, hbtlt, hatn, hats, hbsl, hka, hkb, hsl, hkk, hib1, lob1, hb1, hct, hpv7, _⟩ := hW
     exact Det.ohc rfl hW0 (d_ixSQ (j := 1) (q := osl + 1) Tryd.underlying110 sz83 rfl rfl rfl (by omega) rfl)
   ·refine ⟨trivial, fun ph_ hp_ H3 w hW => ?_⟩
    rcases memN_or hp_ with rfl | hp_
    ·have hW0 := hW
     replace hW : A3_0 H3 w := hW
     rw [hA3_0] at hW
     obtain ⟨hC, hbb, hbr, hmet, htold, hbtlt, hatn, hats, hbsl, hka, hkb, hsl, hkk, hib1, lob1, hb1, hct, _⟩ := hW
     exact Det.ohc rfl hW0 (d_load1 Tryd.underlying83 rfl rfl (hats 1 _ rfl))
    obtain rfl := memN_one hp_
    ·have hW0 := hW
     replace hW : A3_1 H3 w := hW
     rw [hA3_1] at hW
     obtain ⟨hC, hbb, hbr, hmet, htold, hbtlt, hatn, hats, hbsl, hka, hkb, hsl, hkk, hib1, lob1, hb1, hct, hpv7, _⟩ := hW
     exact Det.ohc rfl hW0 (d_load1 Tryd.underlying83 rfl rfl (hats 1 _ rfl))
   ·exact HOb.pure ⟨rfl, trivial⟩ rfl rfl (fun _ _ => d_move rfl)
   ·refine ⟨trivial, fun ph_ hp_ H3 w hW => ?_⟩
    obtain rfl := memN_one hp_
    replace hW : A3_0 H3 w := hW
    rw [hA3_0] at hW
    obtain ⟨hC, hbb, hbr, hmet, htold, hbtlt, hatn, hats, hbsl, hka, hkb, hsl, hkk, hib1, lob1, hb1, hct, _⟩ := hW
    refine Ok1.mono (ok_callv (first := #[]) (captured := #[(vp b1)]) rfl c95 rfl (pub_calls (X := [bt]) (ks := [a, b]) (i := 0) (t1 := a) hT hjoin (wrk_pub hfa.2) _ (Nat.le_trans hnb hC.size) (hT _ _ (hC.below hnb (by simpa using hnbt)) hw0) (by simp; exact hbtlt) (hb1 0 _ rfl) hatn rfl hats (by simp) rfl hka)) ?_
    rintro pv7 w' ⟨hpv7, hch0_⟩
    have hch_ : Ch [] _ w' := Gr.ch hch0_
    have hC := hC.trans (hch_.mono (by simp))
    have hbb := hbb.mv hch_ (by simp <;> omega)
    have hbr := hbr.mv hch_ (by simp <;> omega)
    have hmet := hmet.mv hch_ (by simp <;> omega)
    have htold := htold.mv hch_ (by simp <;> omega)
    have hbtlt := hch_.lt hbtlt
    have hatn := hatn.mv hch_ (by simp <;> omega)
    have hats := hats.mv hch_ (by simp <;> omega)
    have hbsl := hch_.lt hbsl
    have hka : IsN w' [bt] a (vp ba) := IsN.mv hch_ (by simp) (fun x hx => .inl hx) _ _ hka
    have hkb : IsN w' [bt] b (vp bb2) := IsN.mv hch_ (by simp) (fun x hx => .inl hx) _ _ hkb
    have hsl : SlA w' [bt] (.slice (some ⟨bsl, osl, none⟩) 2 cap) 2 [(vp ba), (vp bb2)] := hsl.mv hch_ (by simp) (fun x hx => .inl hx)
    have hkk : IsNs w' [bt] [a, b] [(vp ba), (vp bb2)] := IsNs.mv hch_ (by simp) (fun x hx => .inl hx) _ _ hkk
    have hib1 := hch_.lt hib1
    have hb1 := hb1.mv hch_ (by simp <;> omega)
    have hct : IsN w' [bt] (.mk 5 0 [a, b]) pc := IsN.mv hch_ (by simp) (fun x hx => .inl hx) _ _ hct
    have hfin_ : A3_1 (updV H3 8 pv7) w' := by rw [hA3_1]; exact ⟨hC, hbb, hbr, hmet, htold, hbtlt, hatn, hats, hbsl, hka, hkb, hsl, hkk, hib1, lob1, hb1, hct, hpv7, trivial⟩
    exact fin_ rfl ⟨hfin_, rfl⟩
   ·refine ⟨trivial, fun ph_ hp_ H3 w hW => ?_⟩
    obtain rfl := memN_one hp_
    replace hW : A3_1 H3 w := hW
    rw [hA3_1] at hW
    obtain ⟨hC, hbb, hbr, hmet, htold, hbtlt, hatn, hats, hbsl, hka, hkb, hsl, hkk, hib1, lob1, hb1, hct, hpv7, _⟩ := hW
    refine Ok1.mono (ok_buildSlice (cells := #[(vp bb2), (H3 8)]) Tryd.underlying110 zz83 rfl (by decide) (by decide) (by exact fill2 rfl (IsN.cellsv hpv7))) ?_
    rintro _ w' ⟨b8, rfl, hnb_⟩
    have hch_ : Ch [] _ w' := hnb_.ch
    have lo_ := hnb_.lo hC.size
    have ne_b1_b8 := hnb_.gt hib1
    have hC := hC.trans (hch_.mono (by simp))
    have hbb := hbb.mv hch_ (by simp <;> omega)
    have hbr := hbr.mv hch_ (by simp <;> omega)
    have hmet := hmet.mv hch_ (by simp <;> omega)
    have htold := htold.mv hch_ (by simp <;> omega)
    have hbtlt := hch_.lt hbtlt
    have hatn := hatn.mv hch_ (by simp <;> omega)
    have hats := hats.mv hch_ (by simp <;> omega)
    have hbsl := hch_.lt hbsl
    have hka : IsN w' [bt] a (vp ba) := IsN.mv hch_ (by simp) (fun x hx => .inl hx) _ _ hka
    have hkb : IsN w' [bt] b (vp bb2) := IsN.mv hch_ (by simp) (fun x hx => .inl hx) _ _ hkb
    have hsl : SlA w' [bt] (.slice (some ⟨bsl, osl, none⟩) 2 cap) 2 [(vp ba), (vp bb2)] := hsl.mv hch_ (by simp) (fun x hx => .inl hx)
    have hkk : IsNs w' [bt] [a, b] [(vp ba), (vp bb2)] := IsNs.mv hch_ (by simp) (fun x hx => .inl hx) _ _ hkk
    have hib1 := hch_.lt hib1
    have hb1 := hb1.mv hch_ (by simp <;> omega)
    have hct : IsN w' [bt] (.mk 5 0 [a, b]) pc := IsN.mv hch_ (by simp) (fun x hx => .inl hx) _ _ hct
    have hpv7 : IsN w' [bt] (pubOf a) (H3 8) := IsN.mv hch_ (by simp) (fun x hx => .inl hx) _ _ hpv7
    have hib8 : b8 < w'.heap.size := hnb_.lt
    have lob8 : w0.heap.size ≤ b8 := lo_
    have hb8 : At w' b8 0 [(vp bb2), (H3 8)] := hnb_.at
    have ne_b1_b8 : b1 < b8 := ne_b1_b8
    have hfin_ : A3_2 (updV H3 9 (vS b8 0 2 2)) w' := by rw [hA3_2]; exact ⟨hC, hbb, hbr, hmet, htold, hbtlt, hatn, hats, hbsl, hka, hkb, hsl, hkk, hib1, lob1, hb1, hct, hpv7, hib8, lob8, hb8, ne_b1_b8, rfl, trivial⟩
    exact fin_ rfl ⟨hfin_, rfl⟩
   ·refine ⟨trivial, fun ph_ hp_ H3 w hW => ?_⟩
    obtain rfl := memN_one hp_
    replace hW : A3_2 H3 w := hW
    rw [hA3_2] at hW
    obtain ⟨hC, hbb, hbr, hmet, htold, hbtlt, hatn, hats, hbsl, hka, hkb, hsl, hkk, hib1, lob1, hb1, hct, hpv7, hib8, lob8, hb8, ne_b1_b8, hv3_9, _⟩ := hW
    refine Ok1.sub (L' := [(63, (vp bb)), (72, (vS (blk (H3 9)) 0 2 2))]) ⟨rfl, congrArg some hv3_9, trivial⟩ (Ok1.mono (ok_call c45 rfl (ih g1 (by omega) ([b, pubOf a]) m m1 false bb bt br bm rl _ _ _ _ (by simp) hq1 (fun t ht => by simp at ht; first | (rcases ht with rfl | rfl <;> assumption) | (subst ht; assumption)) (Nat.le_trans hnb hC.size) hnbt (hT _ _ (hC.below hnb (by simpa using hnbt)) hw0) ⟨hbb, hbr, hmet, hne1, hne2, hne3⟩ htold (.inr ⟨_, 0, _, rfl, by simp <;> omega, hib8, hb8⟩) (IsNs.of_two hkb hpv7))) ?_)
    rintro _ w' ⟨rfl, htold, hch0_⟩
    have hch_ : Ch [bt] _ w' := hch0_
    have hC := hC.trans (hch_.mono (by simp))
    have hbb := hbb.mv hch_ (by simp <;> omega)
    have hbr := hbr.mv hch_ (by simp <;> omega)
    have hmet := hmet.mv hch_ (by simp <;> omega)
    have hbtlt := hch_.lt hbtlt
    have hatn := hatn.mv hch_ (by simp <;> omega)
    have hats := hats.mv hch_ (by simp <;> omega)
    have hbsl := hch_.lt hbsl
    have hka : IsN w' [bt] a (vp ba) := IsN.mv hch_ (by simp) (fun x hx => .inl hx) _ _ hka
    have hkb : IsN w' [bt] b (vp bb2) := IsN.mv hch_ (by simp) (fun x hx => .inl hx) _ _ hkb
    have hsl : SlA w' [bt] (.slice (some ⟨bsl, osl, none⟩) 2 cap) 2 [(vp ba), (vp bb2)] := hsl.mv hch_ (by simp) (fun x hx => .inl hx)
    have hkk : IsNs w' [bt] [a, b] [(vp ba), (vp bb2)] := IsNs.mv hch_ (by simp) (fun x hx => .inl hx) _ _ hkk
    have hib1 := hch_.lt hib1
    have hb1 := hb1.mv hch_ (by simp <;> omega)
    have hct : IsN w' [bt] (.mk 5 0 [a, b]) pc := IsN.mv hch_ (by simp) (fun x hx => .inl hx) _ _ hct
    have hpv7 : IsN w' [bt] (pubOf a) (H3 8) := IsN.mv hch_ (by simp) (fun x hx => .inl hx) _ _ hpv7
    have hib8 := hch_.lt hib8
    have hb8 := hb8.mv hch_ (by simp <;> omega)
    have hfin_ : A3_3 (updV H3 10 vf) w' := by rw [hA3_3]; exact ⟨hC, hbb, hbr, hmet, htold, hbtlt, hatn, hats, hbsl, hka, hkb, hsl, hkk, hib1, lob1, hb1, hct, hpv7, hib8, lob8, hb8, ne_b1_b8, hv3_9, trivial⟩
    exact fin_ rfl ⟨hfin_, rfl⟩
   ·exact HOb.pure trivial rfl rfl (fun _ _ => d_move rfl)
   ·exact HOb.pureG ⟨rfl, trivial⟩ rfl rfl (fun _ => rfl) rfl (fun _ _ => d_move rfl)
   ·exact HOb.factG hA3_3 ⟨rfl, trivial⟩ rfl rfl rfl rfl (fun _ => rfl) rfl (fun H3 w ⟨_, _, _, _, _, _, _, _, _, _, _, _, _, _, _, hb1, _⟩ => d_load1 Tryd.underlying83 rfl rfl (hb1 0 _ rfl))
   ·exact HOb.pureG trivial rfl rfl (fun _ => rfl) rfl (fun _ _ => d_nil rfl)
   ·exact HOb.pureG trivial rfl rfl (fun _ => rfl) rfl (fun _ _ => d_fieldAddrQ Tryd.underlying112 (m := 0) sz110 rfl rfl rfl)
   ·exact HOb.factG hA3_3 trivial rfl rfl rfl rfl (fun _ => rfl) rfl (fun H3 w ⟨_, _, _, _, _, _, hatn, _⟩ => d_load1 Tryd.underlying110 rfl rfl (hatn 2 _ rfl))
   ·refine ⟨trivial, fun ph_ hp_ H3 w hW => ?_⟩
    obtain rfl := memN_one hp_
    have hW0 := hW
    replace hW : A3_3 H3 w := hW
    rw [hA3_3] at hW
    obtain ⟨hC, hbb, hbr, hmet, htold, hbtlt, hatn, hats, hbsl, hka, hkb, hsl, hkk, hib1, lob1, hb1, hct, hpv7, hib8, lob8, hb8, ne_b1_b8, hv3_9, _⟩ := hW
    exact ⟨(some false), _, rfl, rfl, Det.ohc rfl hW0 (d_ixSQ (j := 0) (q := osl + 0) Tryd.underlying110 sz83 rfl rfl rfl (by omega) rfl)⟩
   ·exact HOb.factG hA3_3 trivial rfl rfl rfl rfl (fun _ => rfl) rfl (fun H3 w ⟨_, _, _, _, _, _, _, hats, _⟩ => d_load1 Tryd.underlying83 rfl rfl (hats 0 _ rfl))
   ·exact HOb.pureG ⟨rfl, trivial⟩ rfl rfl (fun _ => rfl) rfl (fun _ _ => d_move rfl)
   ·refine ⟨trivial, fun ph_ hp_ H3 w hW => ?_⟩
    obtain rfl := memN_one hp_
    replace hW : A3_3 H3 w := hW
    rw [hA3_3] at hW
    obtain ⟨hC, hbb, hbr, hmet, htold, hbtlt, hatn, hats, hbsl, hka, hkb, hsl, hkk, hib1, lob1, hb1, hct, hpv7, hib8, lob8, hb8, ne_b1_b8, hv3_9, _⟩ := hW
    refine ⟨(some false), _, rfl, rfl, Ok1.mono (ok_buildSlice (cells := #[(vp ba), pc]) Tryd.underlying110 zz83 rfl (by decide) (by decide) (by exact fill2 rfl (IsN.cellsv hct))) ?_⟩
    rintro _ w' ⟨b9, rfl, hnb_⟩
    have hch_ : Ch [] _ w' := hnb_.ch
    have lo_ := hnb_.lo hC.size
    have ne_b1_b9 := hnb_.gt hib1
    have ne_b8_b9 := hnb_.gt hib8
    have hC := hC.trans (hch_.mono (by simp))
    have hbb := hbb.mv hch_ (by simp <;> omega)
    have hbr := hbr.mv hch_ (by simp <;> omega)
    have hmet := hmet.mv hch_ (by simp <;> omega)
    have htold := htold.mv hch_ (by simp <;> omega)
    have hbtlt := hch_.lt hbtlt
    have hatn := hatn.mv hch_ (by simp <;> omega)
    have hats := hats.mv hch_ (by simp <;> omega)
    have hbsl := hch_.lt hbsl
    have hka : IsN w' [bt] a (vp ba) := IsN.mv hch_ (by simp) (fun x hx => .inl hx) _ _ hka
    have hkb : IsN w' [bt] b (vp bb2) := IsN.mv hch_ (by simp) (fun x hx => .inl hx) _ _ hkb
    have hsl : SlA w' [bt] (.slice (some ⟨bsl, osl, none⟩) 2 cap) 2 [(vp ba), (vp bb2)] := hsl.mv hch_ (by simp) (fun x hx => .inl hx)
    have hkk : IsNs w' [bt] [a, b] [(vp ba), (vp bb2)] := IsNs.mv hch_ (by simp) (fun x hx => .inl hx) _ _ hkk
    have hib1 := hch_.lt hib1
    have hb1 := hb1.mv hch_ (by simp <;> omega)
    have hct : IsN w' [bt] (.mk 5 0 [a, b]) pc := IsN.mv hch_ (by simp) (fun x hx => .inl hx) _ _ hct
    have hpv7 : IsN w' [bt] (pubOf a) (H3 8) := IsN.mv hch_ (by simp) (fun x hx => .inl hx) _ _ hpv7
    have hib8 := hch_.lt hib8
    have hb8 := hb8.mv hch_ (by simp <;> omega)
    have hib9 : b9 < w'.heap.size := hnb_.lt
    have lob9 : w0.heap.size ≤ b9 := lo_
    have hb9 : At w' b9 0 [(vp ba), pc] := hnb_.at
    have ne_b1_b9 : b1 < b9 := ne_b1_b9
    have ne_b8_b9 : (blk (H3 9)) < b9 := ne_b8_b9
    have hfin_ : A3_4 (updV H3 20 (vS b9 0 2 2)) w' := by rw [hA3_4]; exact ⟨hC, hbb, hbr, hmet, htold, hbtlt, hatn, hats, hbsl, hka, hkb, hsl, hkk, hib1, lob1, hb1, hct, hpv7, hib8, lob8, hb8, ne_b1_b8, hv3_9, hib9, lob9, hb9, ne_b1_b9, ne_b8_b9, rfl, trivial⟩
    exact fin_ rfl ⟨hfin_, rfl⟩
   ·refine ⟨trivial, fun ph_ hp_ H3 w hW => ?_⟩
    obtain rfl := memN_one hp_
    replace hW : A3_4 H3 w := hW
    rw [hA3_4] at hW
    obtain ⟨hC, hbb, hbr, hmet, htold, hbtlt, hatn, hats, hbsl, hka, hkb, hsl, hkk, hib1, lob1, hb1, hct, hpv7, hib8, lob8, hb8, ne_b1_b8, hv3_9, hib9, lob9, hb9, ne_b1_b9, ne_b8_b9, hv3_20, _⟩ := hW
    refine ⟨(some false), _, rfl, rfl, Ok1.sub (L' := [(74, vf), (75, (vp bb)), (83, (vS (blk (H3 20)) 0 2 2))]) ⟨rfl, rfl, congrArg some hv3_20, trivial⟩ (Ok1.mono (ok_call c45 rfl (ih g2 (by omega) ([a, .mk 5 0 [a, b]]) m1 m' false bb bt br bm rl _ _ _ _ (by simp) hq2 (fun t ht => by simp at ht; first | (rcases ht with rfl | rfl <;> assumption) | (subst ht; assumption)) (Nat.le_trans hnb hC.size) hnbt (hT _ _ (hC.below hnb (by simpa using hnbt)) hw0) ⟨hbb, hbr, hmet, hne1, hne2, hne3⟩ htold (.inr ⟨_, 0, _, rfl, by simp <;> omega, hib9, hb9⟩) (IsNs.of_two hka hct))) ?_)⟩
    rintro _ w' ⟨rfl, htold, hch0_⟩
    have hch_ : Ch [bt] _ w' := hch0_
    have hC := hC.trans (hch_.mono (by simp))
    have hbb := hbb.mv hch_ (by simp <;> omega)
    have hbr := hbr.mv hch_ (by simp <;> omega)
    have hmet := hmet.mv hch_ (by simp <;> omega)
    have hbtlt := hch_.lt hbtlt
    have hatn := hatn.mv hch_ (by simp <;> omega)
    have hats := hats.mv hch_ (by simp <;> omega)
    have hbsl := hch_.lt hbsl
    have hka : IsN w' [bt] a (vp ba) := IsN.mv hch_ (by simp) (fun x hx => .inl hx) _ _ hka
    have hkb : IsN w' [bt] b (vp bb2) := IsN.mv hch_ (by simp) (fun x hx => .inl hx) _ _ hkb
    have hsl : SlA w' [bt] (.slice (some ⟨bsl, osl, none⟩) 2 cap) 2 [(vp ba), (vp bb2)] := hsl.mv hch_ (by simp) (fun x hx => .inl hx)
    have hkk : IsNs w' [bt] [a, b] [(vp ba), (vp bb2)] := IsNs.mv hch_ (by simp) (fun x hx => .inl hx) _ _ hkk
    have hib1 := hch_.lt hib1
    have hb1 := hb1.mv hch_ (by simp <;> omega)
    have hct : IsN w' [bt] (.mk 5 0 [a, b]) pc := IsN.mv hch_ (by simp) (fun x hx => .inl hx) _ _ hct
    have hpv7 : IsN w' [bt] (pubOf a) (H3 8) := IsN.mv hch_ (by simp) (fun x hx => .inl hx) _ _ hpv7
    have hib8 := hch_.lt hib8
    have hb8 := hb8.mv hch_ (by simp <;> omega)
    have hib9 := hch_.lt hib9
    have hb9 := hb9.mv hch_ (by simp <;> omega)
    have hfin_ : A3_5 (updV H3 21 vf) w' := by rw [hA3_5]; exact ⟨hC, hbb, hbr, hmet, htold, hbtlt, hatn, hats, hbsl, hka, hkb, hsl, hkk, hib1, lob1, hb1, hct, hpv7, hib8, lob8, hb8, ne_b1_b8, hv3_9, hib9, lob9, hb9, ne_b1_b9, ne_b8_b9, hv3_20, trivial⟩
    exact fin_ rfl ⟨hfin_, rfl⟩
   ·exact HOb.pure trivial rfl rfl (fun _ _ => d_pick (b := false) rfl rfl)
   ·exact HOb.pure trivial rfl rfl (fun _ _ => d_move rfl)
   ·exact HOb.pureG ⟨rfl, trivial⟩ rfl rfl (fun _ => rfl) rfl (fun _ _ => d_move rfl)
   ·exact HOb.pureG trivial rfl rfl (fun _ => rfl) rfl (fun _ _ => d_nil rfl)
   ·exact HOb.pureG trivial rfl rfl (fun _ => rfl) rfl (fun _ _ => d_fieldAddrQ Tryd.underlying116 (m := 1) sz31 rfl rfl rfl)
   ·exact HOb.pureG trivial rfl rfl (fun _ => rfl) rfl (fun _ _ => d_fieldAddrQ Tryd.underlying31 (m := 0) sz4 rfl rfl rfl)
   ·exact HOb.factG hA3_5 trivial rfl rfl rfl rfl (fun _ => rfl) rfl (fun H3 w ⟨_, hbb, _⟩ => d_bool (c := false) (d_load1 Tryd.underlying4 rfl rfl (hbb 1 _ rfl)) hflag)
   ·exact HOb.pureG trivial rfl rfl (fun _ => rfl) rfl (fun _ _ => d_move rfl)
   ·exact HOb.skip ⟨rfl, trivial⟩ rfl rfl (fun _ => rfl) (by decide) rfl (fun _ => rfl)
   ·exact HOb.skip ⟨rfl, trivial⟩ rfl rfl (fun _ => rfl) (by decide) rfl (fun _ => rfl)
   ·exact HOb.skip trivial rfl rfl (fun _ => rfl) (by decide) rfl (fun _ => rfl)
   ·exact HOb.skip trivial rfl rfl (fun _ => rfl) (by decide) rfl (fun _ => rfl)
   ·exact HOb.pureG trivial rfl rfl (fun _ => rfl) rfl (fun _ _ => d_pick (b := false) rfl rfl)
   ·exact HOb.pure trivial rfl rfl (fun _ _ => d_pick (b := false) rfl rfl)
   ·exact HOb.pure trivial rfl rfl (fun _ _ => d_assign rfl)
  ·intro ac w H3 hW hF
   replace hW : A3_5 H3 w := hW
   rw [hA3_5] at hW
   obtain ⟨hC, hbb, hbr, hmet, htold, hbtlt, hatn, hats, hbsl, hka, hkb, hsl, hkk, hib1, lob1, hb1, hct, hpv7, hib8, lob8, hb8, ne_b1_b8, hv3_9, hib9, lob9, hb9, ne_b1_b9, ne_b8_b9, hv3_20, _⟩ := hW
   clear hA3_0 A3_0 hA3_1 A3_1 hA3_2 A3_2 hA3_3 A3_3 hA3_4 A3_4 hA3_5 A3_5
   have hF := hF.sub (L' := [(0, (vp bb)), (1, (vp bn)), (3, (vp b1)), (4, vf), (5, (Value.func (.func 95) #[] #[(vp b1)])), (6, pc), (11, (vI 4)), (12, vf), (14, vf), (56, vt)]) ⟨rfl, rfl, rfl, rfl, rfl, rfl, rfl, rfl, rfl, rfl, trivial⟩
   refine then_n ?_
   refine wp_ret ?_
   refine block_ret ?_
   refine then_ret ?_
   refine body_ret hF (results1 Tryd.results82 (RV.tmp hF rfl)) ?_
   exact ⟨rfl, htold, hC⟩
 ·skip
  obtain ⟨A4_0, hA4_0⟩ : ∃ A : (Nat → Value) → World → Prop, A = fun _ w => (Ch [bt] w0 w) ∧ (At w bb 0 [(vB W.dh), (vB W.kem), (vp br), (Value.map (some bt))]) ∧ (At w br 0 [rl, (Value.map (some bm))]) ∧ (MapIs w bm met) ∧ (MapIs w bt m) ∧ (bt < w.heap.size) ∧ (At w bn 0 [(vI 4), (vI n), (vS bsl osl 2 cap), (vT (txt (.mk 4 n [a, b])))]) ∧ (At w bsl osl [(vp ba), (vp bb2)]) ∧ (bsl < w.heap.size) ∧ (IsN w [bt] a (vp ba)) ∧ (IsN w [bt] b (vp bb2)) ∧ (SlA w [bt] (.slice (some ⟨bsl, osl, none⟩) 2 cap) 2 [(vp ba), (vp bb2)]) ∧ (IsNs w [bt] [a, b] [(vp ba), (vp bb2)]) ∧ (b1 < w.heap.size) ∧ (w0.heap.size ≤ b1) ∧ (At w b1 0 [(vp bn)]) ∧ (IsN w [bt] (.mk 5 0 [a, b]) pc) ∧ True := ⟨_, rfl⟩
  obtain ⟨A4_1, hA4_1⟩ : ∃ A : (Nat → Value) → World → Prop, A = fun H4 w => (Ch [bt] w0 w) ∧ (At w bb 0 [(vB W.dh), (vB W.kem), (vp br), (Value.map (some bt))]) ∧ (At w br 0 [rl, (Value.map (some bm))]) ∧ (MapIs w bm met) ∧ (MapIs w bt m) ∧ (bt < w.heap.size) ∧ (At w bn 0 [(vI 4), (vI n), (vS bsl osl 2 cap), (vT (txt (.mk 4 n [a, b])))]) ∧ (At w bsl osl [(vp ba), (vp bb2)]) ∧ (bsl < w.heap.size) ∧ (IsN w [bt] a (vp ba)) ∧ (IsN w [bt] b (vp bb2)) ∧ (SlA w [bt] (.slice (some ⟨bsl, osl, none⟩) 2 cap) 2 [(vp ba), (vp bb2)]) ∧ (IsNs w [bt] [a, b] [(vp ba), (vp bb2)]) ∧ (b1 < w.heap.size) ∧ (w0.heap.size ≤ b1) ∧ (At w b1 0 [(vp bn)]) ∧ (IsN w [bt] (.mk 5 0 [a, b]) pc) ∧ (IsN w [bt] (pubOf a) (H4 8)) ∧ True := ⟨_, rfl⟩
  obtain ⟨A4_2, hA4_2⟩ : ∃ A : (Nat → Value) → World → Prop, A = fun H4 w => (Ch [bt] w0 w) ∧ (At w bb 0 [(vB W.dh), (vB W.kem), (vp br), (Value.map (some bt))]) ∧ (At w br 0 [rl, (Value.map (some bm))]) ∧ (MapIs w bm met) ∧ (MapIs w bt m) ∧ (bt < w.heap.size) ∧ (At w bn 0 [(vI 4), (vI n), (vS bsl osl 2 cap), (vT (txt (.mk 4 n [a, b])))]) ∧ (At w bsl osl [(vp ba), (vp bb2)]) ∧ (bsl < w.heap.size) ∧ (IsN w [bt] a (vp ba)) ∧ (IsN w [bt] b (vp bb2)) ∧ (SlA w [bt] (.slice (some ⟨bsl, osl, none⟩) 2 cap) 2 [(vp ba), (vp bb2)]) ∧ (IsNs w [bt] [a, b] [(vp ba), (vp bb2)]) ∧ (b1 < w.heap.size) ∧ (w0.heap.size ≤ b1) ∧ (At w b1 0 [(vp bn)]) ∧ (IsN w [bt] (.mk 5 0 [a, b]) pc) ∧ (IsN w [bt] (pubOf a) (H4 8)) ∧ ((blk (H4 9)) < w.heap.size) ∧ (w0.heap.size ≤ (blk (H4 9))) ∧ (At w (blk (H4 9)) 0 [(vp bb2), (H4 8)]) ∧ (b1 < (blk (H4 9))) ∧ (H4 9 = (vS (blk (H4 9)) 0 2 2)) ∧ True := ⟨_, rfl⟩
  obtain ⟨A4_3, hA4_3⟩ : ∃ A : (Nat → Value) → World → Prop, A = fun H4 w => (Ch [bt] w0 w) ∧ (At w bb 0 [(vB W.dh), (vB W.kem), (vp br), (Value.map (some bt))]) ∧ (At w br 0 [rl, (Value.map (some bm))]) ∧ (MapIs w bm met) ∧ (MapIs w bt m1) ∧ (bt < w.heap.size) ∧ (At w bn 0 [(vI 4), (vI n), (vS bsl osl 2 cap), (vT (txt (.mk 4 n [a, b])))]) ∧ (At w bsl osl [(vp ba), (vp bb2)]) ∧ (bsl < w.heap.size) ∧ (IsN w [bt] a (vp ba)) ∧ (IsN w [bt] b (vp bb2)) ∧ (SlA w [bt] (.slice (some ⟨bsl, osl, none⟩) 2 cap) 2 [(vp ba), (vp bb2)]) ∧ (IsNs w [bt] [a, b] [(vp ba), (vp bb2)]) ∧ (b1 < w.heap.size) ∧ (w0.heap.size ≤ b1) ∧ (At w b1 0 [(vp bn)]) ∧ (IsN w [bt] (.mk 5 0 [a, b]) pc) ∧ (IsN w [bt] (pubOf a) (H4 8)) ∧ ((blk (H4 9)) < w.heap.size) ∧ (w0.heap.size ≤ (blk (H4 9))) ∧ (At w (blk (H4 9)) 0 [(vp bb2), (H4 8)]) ∧ (b1 < (blk (H4 9))) ∧ (H4 9 = (vS (blk (H4 9)) 0 2 2)) ∧ True := ⟨_, rfl⟩
  obtain ⟨A4_4, hA4_4⟩ : ∃ A : (Nat → Value) → World → Prop, A = fun H4 w => (Ch [bt] w0 w) ∧ (At w bb 0 [(vB W.dh), (vB W.kem), (vp br), (Value.map (some bt))]) ∧ (At w br 0 [rl, (Value.map (some bm))]) ∧ (MapIs w bm met) ∧ (MapIs w bt m1) ∧ (bt < w.heap.size) ∧ (At w bn 0 [(vI 4), (vI n), (vS bsl osl 2 cap), (vT (txt (.mk 4 n [a, b])))]) ∧ (At w bsl osl [(vp ba), (vp bb2)]) ∧ (bsl < w.heap.size) ∧ (IsN w [bt] a (vp ba)) ∧ (IsN w [bt] b (vp bb2)) ∧ (SlA w [bt] (.slice (some ⟨bsl, osl, none⟩) 2 cap) 2 [(vp ba), (vp bb2)]) ∧ (IsNs w [bt] [a, b] [(vp ba), (vp bb2)]) ∧ (b1 < w.heap.size) ∧ (w0.heap.size ≤ b1) ∧ (At w b1 0 [(vp bn)]) ∧ (IsN w [bt] (.mk 5 0 [a, b]) pc) ∧ (IsN w [bt] (pubOf a) (H4 8)) ∧ ((blk (H4 9)) < w.heap.size) ∧ (w0.heap.size ≤ (blk (H4 9))) ∧ (At w (blk (H4 9)) 0 [(vp bb2), (H4 8)]) ∧ (b1 < (blk (H4 9))) ∧ (H4 9 = (vS (blk (H4 9)) 0 2 2)) ∧ ((blk (H4 20)) < w.heap.size) ∧ (w0.heap.size ≤ (blk (H4 20))) ∧ (At w (blk (H4 20)) 0 [(vp ba), pc]) ∧ (b1 < (blk (H4 20))) ∧ ((blk (H4 9)) < (blk (H4 20))) ∧ (H4 20 = (vS (blk (H4 20)) 0 2 2)) ∧ True := ⟨_, rfl⟩
  obtain ⟨A4_5, hA4_5⟩ : ∃ A : (Nat → Value) → World → Prop, A = fun H4 w => (Ch [bt] w0 w) ∧ (At w bb 0 [(vB W.dh), (vB W.kem), (vp br), (Value.map (some bt))]) ∧ (At w br 0 [rl, (Value.map (some bm))]) ∧ (MapIs w bm met) ∧ (MapIs w bt m2) ∧ (bt < w.heap.size) ∧ (At w bn 0 [(vI 4), (vI n), (vS bsl osl 2 cap), (vT (txt (.mk 4 n [a, b])))]) ∧ (At w bsl osl [(vp ba), (vp bb2)]) ∧ (bsl < w.heap.size) ∧ (IsN w [bt] a (vp ba)) ∧ (IsN w [bt] b (vp bb2)) ∧ (SlA w [bt] (.slice (some ⟨bsl, osl, none⟩) 2 cap) 2 [(vp ba), (vp bb2)]) ∧ (IsNs w [bt] [a, b] [(vp ba), (vp bb2)]) ∧ (b1 < w.heap.size) ∧ (w0.heap.size ≤ b1) ∧ (At w b1 0 [(vp bn)]) ∧ (IsN w [bt] (.mk 5 0 [a, b]) pc) ∧ (IsN w [bt] (pubOf a) (H4 8)) ∧ ((blk (H4 9)) < w.heap.size) ∧ (w0.heap.size ≤ (blk (H4 9))) ∧ (At w (blk (H4 9)) 0 [(vp bb2), (H4 8)]) ∧ (b1 < (blk (H4 9))) ∧ (H4 9 = (vS (blk (H4 9)) 0 2 2)) ∧ ((blk (H4 20)) < w.heap.size) ∧ (w0.heap.size ≤ (blk (H4 20))) ∧ (At w (blk (H4 20)) 0 [(vp ba), pc]) ∧ (b1 < (blk (H4 20))) ∧ ((blk (H4 9)) < (blk (H4 20))) ∧ (H4 20 = (vS (blk (H4 20)) 0 2 2)) ∧ True := ⟨_, rfl⟩
  obtain ⟨A4_6, hA4_6⟩ : ∃ A : (Nat → Value) → World → Prop, A = fun H4 w => (Ch [bt] w0 w) ∧ (At w bb 0 [(vB W.dh), (vB W.kem), (vp br), (Value.map (some bt))]) ∧ (At w br 0 [rl, (Value.map (some bm))]) ∧ (MapIs w bm met) ∧ (MapIs w bt m2) ∧ (bt < w.heap.size) ∧ (At w bn 0 [(vI 4), (vI n), (vS bsl osl 2 cap), (vT (txt (.mk 4 n [a, b])))]) ∧ (At w bsl osl [(vp ba), (vp bb2)]) ∧ (bsl < w.heap.size) ∧ (IsN w [bt] a (vp ba)) ∧ (IsN w [bt] b (vp bb2)) ∧ (SlA w [bt] (.slice (some ⟨bsl, osl, none⟩) 2 cap) 2 [(vp ba), (vp bb2)]) ∧ (IsNs w [bt] [a, b] [(vp ba), (vp bb2)]) ∧ (b1 < w.heap.size) ∧ (w0.heap.size ≤ b1) ∧ (At w b1 0 [(vp bn)]) ∧ (IsN w [bt] (.mk 5 0 [a, b]) pc) ∧ (IsN w [bt] (pubOf a) (H4 8)) ∧ ((blk (H4 9)) < w.heap.size) ∧ (w0.heap.size ≤ (blk (H4 9))) ∧ (At w (blk (H4 9)) 0 [(vp bb2), (H4 8)]) ∧ (b1 < (blk (H4 9))) ∧ (H4 9 = (vS (blk (H4 9)) 0 2 2)) ∧ ((blk (H4 20)) < w.heap.size) ∧ (w0.heap.size ≤ (blk (H4 20))) ∧ (At w (blk (H4 20)) 0 [(vp ba), pc]) ∧ (b1 < (blk (H4 20))) ∧ ((blk (H4 9)) < (blk (H4 20))) ∧ (H4 20 = (vS (blk (H4 20)) 0 2 2)) ∧ ((blk (H4 32)) < w.heap.size) ∧ (w0.heap.size ≤ (blk (H4 32))) ∧ (At w (blk (H4 32)) 0 [pc]) ∧ (b1 < (blk (H4 32))) ∧ ((blk (H4 9)) < (blk (H4 32))) ∧ ((blk (H4 20)) < (blk (H4 32))) ∧ (H4 32 = (vS (blk (H4 32)) 0 1 1)) ∧ True := ⟨_, rfl⟩
  obtain ⟨A4_7, hA4_7⟩ : ∃ A : (Nat → Value) → World → Prop, A = fun H4 w => (Ch [bt] w0 w) ∧ (At w bb 0 [(vB W.dh), (vB W.kem), (vp br), (Value.map (some bt))]) ∧ (At w br 0 [rl, (Value.map (some bm))]) ∧ (MapIs w bm met) ∧ (MapIs w bt m') ∧ (bt < w.heap.size) ∧ (At w bn 0 [(vI 4), (vI n), (vS bsl osl 2 cap), (vT (txt (.mk 4 n [a, b])))]) ∧ (At w bsl osl [(vp ba), (vp bb2)]) ∧ (bsl < w.heap.size) ∧ (IsN w [bt] a (vp ba)) ∧ (IsN w [bt] b (vp bb2)) ∧ (SlA w [bt] (.slice (some ⟨bsl, osl, none⟩) 2 cap) 2 [(vp ba), (vp bb2)]) ∧ (IsNs w [bt] [a, b] [(vp ba), (vp bb2)]) ∧ (b1 < w.heap.size) ∧ (w0.heap.size ≤ b1) ∧ (At w b1 0 [(vp bn)]) ∧ (IsN w [bt] (.mk 5 0 [a, b]) pc) ∧ (IsN w [bt] (pubOf a) (H4 8)) ∧ ((blk (H4 9)) < w.heap.size) ∧ (w0.heap.size ≤ (blk (H4 9))) ∧ (At w (blk (H4 9)) 0 [(vp bb2), (H4 8)]) ∧ (b1 < (blk (H4 9))) ∧ (H4 9 = (vS (blk (H4 9)) 0 2 2)) ∧ ((blk (H4 20)) < w.heap.size) ∧ (w0.heap.size ≤ (blk (H4 20))) ∧ (At w (blk (H4 20)) 0 [(vp ba), pc]) ∧ (b1 < (blk (H4 20))) ∧ ((blk (H4 9)) < (blk (H4 20))) ∧ (H4 20 = (vS (blk (H4 20)) 0 2 2)) ∧ ((blk (H4 32)) < w.heap.size) ∧ (w0.heap.size ≤ (blk (H4 32))) ∧ (At w (blk (H4 32)) 0 [pc]) ∧ (b1 < (blk (H4 32))) ∧ ((blk (H4 9)) < (blk (H4 32))) ∧ ((blk (H4 20)) < (blk (H4 32))) ∧ (H4 32 = (vS (blk (H4 32)) 0 1 1)) ∧ True := ⟨_, rfl⟩
  refine region_hist mo (fun p_ H_ w_ => (([A4_0, A4_1, A4_2, A4_3, A4_4, A4_5, A4_6, A4_7] : List ((Nat → Value) → World → Prop)).getD p_ (fun _ _ => True)) H_ w_) [8, 9, 10, 20, 21, 32, 33] (rows := [hr_ [] [(0, (vp bb))] [0, 1, 2] (vp bb), hr_ [] [(3, (vp b1))] [0, 1] (vp bn), hr_ [(1, 64)] [] [0, 1] (vp bn), hr_ [(2, 65)] [] [0, 1] (vP bn 2), hr_ [(3, 66)] [] [0, 1] (vS bsl osl 2 cap), hr_ [(4, 67)] [] [0, 1] (vP bsl (osl + 1)), hr_ [(5, 68)] [] [0, 1] (vp bb2), hr_ [] [(5, (Value.func (.func 95) #[] #[(vp b1)]))] [0] (Value.func (.func 95) #[] #[(vp b1)]), ⟨[(7, 70)], [], [0], [8], fun H4 => H4 8, fun H4 K_ h_ => by simp only [h_ 8 (by simp)]⟩, ⟨[(6, 69), (8, 71)], [], [1], [9], fun H4 => H4 9, fun H4 K_ h_ => by simp only [h_ 9 (by simp)]⟩, hr_ [(0, 63), (9, 72)] [] [2] vf, hr_ [(10, 73)] [] [3] vf, hr_ [(11, 74)] [(0, (vp bb))] [3, 4] (vp bb), hr_ [(11, 74)] [(3, (vp b1))] [3] (vp bn), hr_ [(13, 76), (11, 74)] [] [3] (vp bn), hr_ [(14, 77), (11, 74)] [] [3] (vP bn 2), hr_ [(15, 78), (11, 74)] [] [3] (vS bsl osl 2 cap), hr_ [(16, 79), (11, 74)] [] [3] (vP bsl (osl + 0)), hr_ [(17, 80), (11, 74)] [] [3] (vp ba), hr_ [(11, 74)] [(6, pc)] [3] pc, ⟨[(18, 81), (19, 82), (11, 74)], [], [3], [20], fun H4 => H4 20, fun H4 K_ h_ => by simp only [h_ 20 (by simp)]⟩, hr_ [(12, 75), (20, 83), (11, 74)] [] [4] vf, hr_ [(11, 74), (21, 84)] [] [5] vf, hr_ [(22, 85)] [] [5] vf, hr_ [(23, 86)] [(0, (vp bb))] [5] (vp bb), hr_ [(24, 87), (23, 86)] [] [5] (vp bb), hr_ [(25, 88), (23, 86)] [] [5] (vp bb), hr_ [(26, 89), (23, 86)] [] [5] (vP bb 1), hr_ [(27, 90), (23, 86)] [] [5] vt, hr_ [(28, 91), (23, 86)] [] [5] vt, hr_ [(29, 92)] [(0, (vp bb))] [5, 6] (vp bb), hr_ [(29, 92)] [(6, pc)] [5] pc, ⟨[(31, 94), (29, 92)], [], [5], [32], fun H4 => H4 32, fun H4 K_ h_ => by simp only [h_ 32 (by simp)]⟩, hr_ [(30, 93), (32, 95), (29, 92)] [] [6] (vB r), hr_ [(29, 92), (33, 96), (23, 86)] [] [7] (vB r), hr_ [(23, 86), (34, 97)] [] [7] (vB r), hr_ [(35, 98)] [] [7] (vB r)]) (by kernel_rfl) hF (fun H_ => ?_) ?_ ?_
  ·have hch_ := Ch.drew w
   have hfin_ : A4_0 H_ { w with drawn := w.drawn + 1 } := by rw [hA4_0]; exact ⟨hC.trans (hch_.mono (by simp)), hbb.mv hch_ (by simp <;> omega), hbr.mv hch_ (by simp <;> omega), hmet.mv hch_ (by simp <;> omega), htold.mv hch_ (by simp <;> omega), hch_.lt hbtlt, hatn.mv hch_ (by simp <;> omega), hats.mv hch_ (by simp <;> omega), hch_.lt hbsl, IsN.mv hch_ (by simp) (fun x hx => .inl hx) _ _ hka, IsN.mv hch_ (by simp) (fun x hx => .inl hx) _ _ hkb, hsl.mv hch_ (by simp) (fun x hx => .inl hx), IsNs.mv hch_ (by simp) (fun x hx => .inl hx) _ _ hkk, hch_.lt hib1, lob1, hb1.mv hch_ (by simp <;> omega), IsN.mv hch_ (by simp) (fun x hx => .inl hx) _ _ hct, trivial⟩
   exact hfin_
  ·refine ⟨?_, ?_, ?_, ?_, ?_, ?_, ?_, ?_, ?_, ?_, ?_, ?_, ?_, ?_, ?_, ?_, ?_, ?_, ?_, ?_, ?_, ?_, ?_, ?_, ?_, ?_, ?_, ?_, ?_, ?_, ?_, ?_, ?_, ?_, ?_, ?_, ?_, trivial⟩
   ·exact HOb.pure ⟨rfl, trivial⟩ rfl rfl (fun _ _ => d_move rfl)
   ·refine ⟨⟨rfl, trivial⟩, fun ph_ hp_ H4 w hW => ?_⟩
    rcases memN_or hp_ with rfl | hp_
    ·have hW0 := hW
     replace hW : A4_0 H4 w := hW
     rw [hA4_0] at hW
     obtain ⟨hC, hbb, hbr, hmet, htold, hbtlt, hatn, hats, hbsl, hka, hkb, hsl, hkk, hib1, lob1, hb1, hct, _⟩ := hW
     exact Det.ohc rfl hW0 (d_load1 Tryd.underlying83 rfl rfl (hb1 0 _ rfl))
    obtain rfl := memN_one hp_
    ·have hW0 := hW
     replace hW : A4_1 H4 w := hW
     rw [hA4_1] at hW
     obtain ⟨hC, hbb, hbr, hmet, htold, hbtlt, hatn, hats, hbsl, hka, hkb, hsl, hkk, hib1, lob1, hb1, hct, hpv10, _⟩ := hW
     exact Det.ohc rfl hW0 (d_load1 Tryd.underlying83 rfl rfl (hb1 0 _ rfl))
   ·exact HOb.pure trivial rfl rfl (fun _ _ => d_nil rfl)
   ·exact HOb.pure trivial rfl rfl (fun _ _ => d_fieldAddrQ Tryd.underlying112 (m := 0) sz110 rfl rfl rfl)
   ·refine ⟨trivial, fun ph_ hp_ H4 w hW => ?_⟩
    rcases memN_or hp_ with rfl | hp_
    ·have hW0 := hW
     replace hW : A4_0 H4 w := hW
     rw [hA4_0] at hW
     obtain ⟨hC, hbb, hbr, hmet, htold, hbtlt, hatn, hats, hbsl, hka, hkb, hsl, hkk, hib1, lob1, hb1, hct, _⟩ := hW
     exact Det.ohc rfl hW0 (d_load1 Tryd.underlying110 rfl rfl (hatn 2 _ rfl))
    obtain rfl := memN_one hp_
    ·have hW0 := hW
     replace hW : A4_1 H4 w := hW
     rw [hA4_1] at hW
     obtain ⟨hC, hbb, hbr, hmet, htold, hbtlt, hatn, hats, hbsl, hka, hkb, hsl, hkk, hib1, lob1, hb1, hct, hpv10, _⟩ := hW
     exact Det.ohc rfl hW0 (d_load1 Tryd.underlying110 rfl rfl (hatn 2 _ rfl))
   ·refine ⟨trivial, fun ph_ hp_ H4 w hW => ?_⟩
    rcases memN_or hp_ with rfl | hp_
    ·have hW0 := hW
     replace hW : A4_0 H4 w := hW
     rw [hA4_0] at hW
     obtain ⟨hC, hbb, hbr, hmet, htold, hbtlt, hatn, hats, hbsl, hka, hkb, hsl, hkk, hib1, lob1, hb1, hct, _⟩ := hW
     exact Det.ohc rfl hW0 (d_ixSQ (j := 1) (q := osl + 1) Tryd.underlying110 sz83 rfl rfl rfl (by omega) rfl)
    obtain rfl := memN_one hp_
    ·have hW0 := hW
     replace hW : A4_1 H4 w := hW
     rw [hA4_1] at hW
     obtain ⟨hC, hbb, hbr, hmet, htold, hbtlt, hatn, hats, hbsl, hka, hkb, hsl, hkk, hib1, lob1, hb1, hct, hpv10, _⟩ := hW
     exact Det.ohc rfl hW0 (d_ixSQ (j := 1) (q := osl + 1) Tryd.underlying110 sz83 rfl rfl rfl (by omega) rfl)
   ·refine ⟨trivial, fun ph_ hp_ H4 w hW => ?_⟩
    rcases memN_or hp_ with rfl | hp_
    ·have hW0 := hW
     replace hW : A4_0 H4 w := hW
     rw [hA4_0] at hW
     obtain ⟨hC, hbb, hbr, hmet, htold, hbtlt, hatn, hats, hbsl, hka, hkb, hsl, hkk, hib1, lob1, hb1, hct, _⟩ := hW
     exact Det.ohc rfl hW0 (d_load1 Tryd.underlying83 rfl rfl (hats 1 _ rfl))
    obtain rfl := memN_one hp_
    ·have hW0 := hW
     replace hW : A4_1 H4 w := hW
     rw [hA4_1] at hW
     obtain ⟨hC, hbb, hbr, hmet, htold, hbtlt, hatn, hats, hbsl, hka, hkb, hsl, hkk, hib1, lob1, hb1, hct, hpv10, _⟩ := hW
     exact Det.ohc rfl hW0 (d_load1 Tryd.underlying83 rfl rfl (hats 1 _ rfl))
   ·exact HOb.pure ⟨rfl, trivial⟩ rfl rfl (fun _ _ => d_move rfl)
   ·refine ⟨trivial, fun ph_ hp_ H4 w hW => ?_⟩
    obtain rfl := memN_one hp_
    replace hW : A4_0 H4 w := hW
    rw [hA4_0] at hW
    obtain ⟨hC, hbb, hbr, hmet, htold, hbtlt, hatn, hats, hbsl, hka, hkb, hsl, hkk, hib1, lob1, hb1, hct, _⟩ := hW
    refine Ok1.mono (ok_callv (first := #[]) (captured := #[(vp b1)]) rfl c95 rfl (pub_calls (X := [bt]) (ks := [a, b]) (i := 0) (t1 := a) hT hjoin (wrk_pub hfa.2) _ (Nat.le_trans hnb hC.size) (hT _ _ (hC.below hnb (by simpa using hnbt)) hw0) (by simp; exact hbtlt) (hb1 0 _ rfl) hatn rfl hats (by simp) rfl hka)) ?_
    rintro pv10 w' ⟨hpv10, hch0_⟩
    have hch_ : Ch [] _ w' := Gr.ch hch0_
    have hC := hC.trans (hch_.mono (by simp))
    have hbb := hbb.mv hch_ (by simp <;> omega)
    have hbr := hbr.mv hch_ (by simp <;> omega)
    have hmet := hmet.mv hch_ (by simp <;> omega)
    have htold := htold.mv hch_ (by simp <;> omega)
    have hbtlt := hch_.lt hbtlt
    have hatn := hatn.mv hch_ (by simp <;> omega)
    have hats := hats.mv hch_ (by simp <;> omega)
    have hbsl := hch_.lt hbsl
    have hka : IsN w' [bt] a (vp ba) := IsN.mv hch_ (by simp) (fun x hx => .inl hx) _ _ hka
    have hkb : IsN w' [bt] b (vp bb2) := IsN.mv hch_ (by simp) (fun x hx => .inl hx) _ _ hkb
    have hsl : SlA w' [bt] (.slice (some ⟨bsl, osl, none⟩) 2 cap) 2 [(vp ba), (vp bb2)] := hsl.mv hch_ (by simp) (fun x hx => .inl hx)
    have hkk : IsNs w' [bt] [a, b] [(vp ba), (vp bb2)] := IsNs.mv hch_ (by simp) (fun x hx => .inl hx) _ _ hkk
    have hib1 := hch_.lt hib1
    have hb1 := hb1.mv hch_ (by simp <;> omega)
    have hct : IsN w' [bt] (.mk 5 0 [a, b]) pc := IsN.mv hch_ (by simp) (fun x hx => .inl hx) _ _ hct
    have hfin_ : A4_1 (updV H4 8 pv10) w' := by rw [hA4_1]; exact ⟨hC, hbb, hbr, hmet, htold, hbtlt, hatn, hats, hbsl, hka, hkb, hsl, hkk, hib1, lob1, hb1, hct, hpv10, trivial⟩
    exact fin_ rfl ⟨hfin_, rfl⟩
   ·refine ⟨trivial, fun ph_ hp_ H4 w hW => ?_⟩
    obtain rfl := memN_one hp_
    replace hW : A4_1 H4 w := hW
    rw [hA4_1] at hW
    obtain ⟨hC, hbb, hbr, hmet, htold, hbtlt, hatn, hats, hbsl, hka, hkb, hsl, hkk, hib1, lob1, hb1, hct, hpv10, _⟩ := hW
    refine Ok1.mono (ok_buildSlice (cells := #[(vp bb2), (H4 8)]) Tryd.underlying110 zz83 rfl (by decide) (by decide) (by exact fill2 rfl (IsN.cellsv hpv10))) ?_
    rintro _ w' ⟨b11, rfl, hnb_⟩
    have hch_ : Ch [] _ w' := hnb_.ch
    have lo_ := hnb_.lo hC.size
    have ne_b1_b11 := hnb_.gt hib1
    have hC := hC.trans (hch_.mono (by simp))
    have hbb := hbb.mv hch_ (by simp <;> omega)
    have hbr := hbr.mv hch_ (by simp <;> omega)
    have hmet := hmet.mv hch_ (by simp <;> omega)
    have htold := htold.mv hch_ (by simp <;> omega)
    have hbtlt := hch_.lt hbtlt
    have hatn := hatn.mv hch_ (by simp <;> omega)
    have hats := hats.mv hch_ (by simp <;> omega)
    have hbsl := hch_.lt hbsl
    have hka : IsN w' [bt] a (vp ba) := IsN.mv hch_ (by simp) (fun x hx => .inl hx) _ _ hka
    have hkb : IsN w' [bt] b (vp bb2) := IsN.mv hch_ (by simp) (fun x hx => .inl hx) _ _ hkb
    have hsl : SlA w' [bt] (.slice (some ⟨bsl, osl, none⟩) 2 cap) 2 [(vp ba), (vp bb2)] := hsl.mv hch_ (by simp) (fun x hx => .inl hx)
    have hkk : IsNs w' [bt] [a, b] [(vp ba), (vp bb2)] := IsNs.mv hch_ (by simp) (fun x hx => .inl hx) _ _ hkk
    have hib1 := hch_.lt hib1
    have hb1 := hb1.mv hch_ (by simp <;> omega)
    have hct : IsN w' [bt] (.mk 5 0 [a, b]) pc := IsN.mv hch_ (by simp) (fun x hx => .inl hx) _ _ hct
    have hpv10 : IsN w' [bt] (pubOf a) (H4 8) := IsN.mv hch_ (by simp) (fun x hx => .inl hx) _ _ hpv10
    have hib11 : b11 < w'.heap.size := hnb_.lt
    have lob11 : w0.heap.size ≤ b11 := lo_
    have hb11 : At w' b11 0 [(vp bb2), (H4 8)] := hnb_.at
    have ne_b1_b11 : b1 < b11 := ne_b1_b11
    have hfin_ : A4_2 (updV H4 9 (vS b11 0 2 2)) w' := by rw [hA4_2]; exact ⟨hC, hbb, hbr, hmet, htold, hbtlt, hatn, hats, hbsl, hka, hkb, hsl, hkk, hib1, lob1, hb1, hct, hpv10, hib11, lob11, hb11, ne_b1_b11, rfl, trivial⟩
    exact fin_ rfl ⟨hfin_, rfl⟩
   ·refine ⟨trivial, fun ph_ hp_ H4 w hW => ?_⟩
    obtain rfl := memN_one hp_
    replace hW : A4_2 H4 w := hW
    rw [hA4_2] at hW
    obtain ⟨hC, hbb, hbr, hmet, htold, hbtlt, hatn, hats, hbsl, hka, hkb, hsl, hkk, hib1, lob1, hb1, hct, hpv10, hib11, lob11, hb11, ne_b1_b11, hv4_9, _⟩ := hW
    refine Ok1.sub (L' := [(63, (vp bb)), (72, (vS (blk (H4 9)) 0 2 2))]) ⟨rfl, congrArg some hv4_9, trivial⟩ (Ok1.mono (ok_call c45 rfl (ih g1 (by omega) ([b, pubOf a]) m m1 false bb bt br bm rl _ _ _ _ (by simp) hq1 (fun t ht => by simp at ht; first | (rcases ht with rfl | rfl <;> assumption) | (subst ht; assumption)) (Nat.le_trans hnb hC.size) hnbt (hT _ _ (hC.below hnb (by simpa using hnbt)) hw0) ⟨hbb, hbr, hmet, hne1, hne2, hne3⟩ htold (.inr ⟨_, 0, _, rfl, by simp <;> omega, hib11, hb11⟩) (IsNs.of_two hkb hpv10))) ?_)
    rintro _ w' ⟨rfl, htold, hch0_⟩
    have hch_ : Ch [bt] _ w' := hch0_
    have hC := hC.trans (hch_.mono (by simp))
    have hbb := hbb.mv hch_ (by simp <;> omega)
    have hbr := hbr.mv hch_ (by simp <;> omega)
    have hmet := hmet.mv hch_ (by simp <;> omega)
    have hbtlt := hch_.lt hbtlt
    have hatn := hatn.mv hch_ (by simp <;> omega)
    have hats := hats.mv hch_ (by simp <;> omega)
    have hbsl := hch_.lt hbsl
    have hka : IsN w' [bt] a (vp ba) := IsN.mv hch_ (by simp) (fun x hx => .inl hx) _ _ hka
    have hkb : IsN w' [bt] b (vp bb2) := IsN.mv hch_ (by simp) (fun x hx => .inl hx) _ _ hkb
    have hsl : SlA w' [bt] (.slice (some ⟨bsl, osl, none⟩) 2 cap) 2 [(vp ba), (vp bb2)] := hsl.mv hch_ (by simp) (fun x hx => .inl hx)
    have hkk : IsNs w' [bt] [a, b] [(vp ba), (vp bb2)] := IsNs.mv hch_ (by simp) (fun x hx => .inl hx) _ _ hkk
    have hib1 := hch_.lt hib1
    have hb1 := hb1.mv hch_ (by simp <;> omega)
    have hct : IsN w' [bt] (.mk 5 0 [a, b]) pc := IsN.mv hch_ (by simp) (fun x hx => .inl hx) _ _ hct
    have hpv10 : IsN w' [bt] (pubOf a) (H4 8) := IsN.mv hch_ (by simp) (fun x hx => .inl hx) _ _ hpv10
    have hib11 := hch_.lt hib11
    have hb11 := hb11.mv hch_ (by simp <;> omega)
    have hfin_ : A4_3 (updV H4 10 vf) w' := by rw [hA4_3]; exact ⟨hC, hbb, hbr, hmet, htold, hbtlt, hatn, hats, hbsl, hka, hkb, hsl, hkk, hib1, lob1, hb1, hct, hpv10, hib11, lob11, hb11, ne_b1_b11, hv4_9, trivial⟩
    exact fin_ rfl ⟨hfin_, rfl⟩
   ·exact HOb.pure trivial rfl rfl (fun _ _ => d_move rfl)
   ·exact HOb.pureG ⟨rfl, trivial⟩ rfl rfl (fun _ => rfl) rfl (fun _ _ => d_move rfl)
   ·exact HOb.factG hA4_3 ⟨rfl, trivial⟩ rfl rfl rfl rfl (fun _ => rfl) rfl (fun H4 w ⟨_, _, _, _, _, _, _, _, _, _, _, _, _, _, _, hb1, _⟩ => d_load1 Tryd.underlying83 rfl rfl (hb1 0 _ rfl))
   ·exact HOb.pureG trivial rfl rfl (fun _ => rfl) rfl (fun _ _ => d_nil rfl)
   ·exact HOb.pureG trivial rfl rfl (fun _ => rfl) rfl (fun _ _ => d_fieldAddrQ Tryd.underlying112 (m := 0) sz110 rfl rfl rfl)
   ·exact HOb.factG hA4_3 trivial rfl rfl rfl rfl (fun _ => rfl) rfl (fun H4 w ⟨_, _, _, _, _, _, hatn, _⟩ => d_load1 Tryd.underlying110 rfl rfl (hatn 2 _ rfl))
   ·refine ⟨trivial, fun ph_ hp_ H4 w hW => ?_⟩
    obtain rfl := memN_one hp_
    have hW0 := hW
    replace hW : A4_3 H4 w := hW
    rw [hA4_3] at hW
    obtain ⟨hC, hbb, hbr, hmet, htold, hbtlt, hatn, hats, hbsl, hka, hkb, hsl, hkk, hib1, lob1, hb1, hct, hpv10, hib11, lob11, hb11, ne_b1_b11, hv4_9, _⟩ := hW
    exact ⟨(some false), _, rfl, rfl, Det.ohc rfl hW0 (d_ixSQ (j := 0) (q := osl + 0) Tryd.underlying110 sz83 rfl rfl rfl (by omega) rfl)⟩
   ·exact HOb.factG hA4_3 trivial rfl rfl rfl rfl (fun _ => rfl) rfl (fun H4 w ⟨_, _, _, _, _, _, _, hats, _⟩ => d_load1 Tryd.underlying83 rfl rfl (hats 0 _ rfl))
   ·exact HOb.pureG ⟨rfl, trivial⟩ rfl rfl (fun _ => rfl) rfl (fun _ _ => d_move rfl)
   ·refine ⟨trivial, fun ph_ hp_ H4 w hW => ?_⟩
    obtain rfl := memN_one hp_
    replace hW : A4_3 H4 w := hW
    rw [hA4_3] at hW
    obtain ⟨hC, hbb, hbr, hmet, htold, hbtlt, hatn, hats, hbsl, hka, hkb, hsl, hkk, hib1, lob1, hb1, hct, hpv10, hib11, lob11, hb11, ne_b1_b11, hv4_9, _⟩ := hW
    refine ⟨(some false), _, rfl, rfl, Ok1.mono (ok_buildSlice (cells := #[(vp ba), pc]) Tryd.underlying110 zz83 rfl (by decide) (by decide) (by exact fill2 rfl (IsN.cellsv hct))) ?_⟩
    rintro _ w' ⟨b12, rfl, hnb_⟩
    have hch_ : Ch [] _ w' := hnb_.ch
    have lo_ := hnb_.lo hC.size
    have ne_b1_b12 := hnb_.gt hib1
    have ne_b11_b12 := hnb_.gt hib11
    have hC := hC.trans (hch_.mono (by simp))
    have hbb := hbb.mv hch_ (by simp <;> omega)
    have hbr := hbr.mv hch_ (by simp <;> omega)
    have hmet := hmet.mv hch_ (by simp <;> omega)
    have htold := htold.mv hch_ (by simp <;> omega)
    have hbtlt := hch_.lt hbtlt
    have hatn := hatn.mv hch_ (by simp <;> omega)
    have hats := hats.mv hch_ (by simp <;> omega)
    have hbsl := hch_.lt hbsl
    have hka : IsN w' [bt] a (vp ba) := IsN.mv hch_ (by simp) (fun x hx => .inl hx) _ _ hka
    have hkb : IsN w' [bt] b (vp bb2) := IsN.mv hch_ (by simp) (fun x hx => .inl hx) _ _ hkb
    have hsl : SlA w' [bt] (.slice (some ⟨bsl, osl, none⟩) 2 cap) 2 [(vp ba), (vp bb2)] := hsl.mv hch_ (by simp) (fun x hx => .inl hx)
    have hkk : IsNs w' [bt] [a, b] [(vp ba), (vp bb2)] := IsNs.mv hch_ (by simp) (fun x hx => .inl hx) _ _ hkk
    have hib1 := hch_.lt hib1
    have hb1 := hb1.mv hch_ (by simp <;> omega)
    have hct : IsN w' [bt] (.mk 5 0 [a, b]) pc := IsN.mv hch_ (by simp) (fun x hx => .inl hx) _ _ hct
    have hpv10 : IsN w' [bt] (pubOf a) (H4 8) := IsN.mv hch_ (by simp) (fun x hx => .inl hx) _ _ hpv10
    have hib11 := hch_.lt hib11
    have hb11 := hb11.mv hch_ (by simp <;> omega)
    have hib12 : b12 < w'.heap.size := hnb_.lt
    have lob12 : w0.heap.size ≤ b12 := lo_
    have hb12 : At w' b12 0 [(vp ba), pc] := hnb_.at
    have ne_b1_b12 : b1 < b12 := ne_b1_b12
    have ne_b11_b12 : (blk (H4 9)) < b12 := ne_b11_b12
    have hfin_ : A4_4 (updV H4 20 (vS b12 0 2 2)) w' := by rw [hA4_4]; exact ⟨hC, hbb, hbr, hmet, htold, hbtlt, hatn, hats, hbsl, hka, hkb, hsl, hkk, hib1, lob1, hb1, hct, hpv10, hib11, lob11, hb11, ne_b1_b11, hv4_9, hib12, lob12, hb12, ne_b1_b12, ne_b11_b12, rfl, trivial⟩
    exact fin_ rfl ⟨hfin_, rfl⟩
   ·refine ⟨trivial, fun ph_ hp_ H4 w hW => ?_⟩
    obtain rfl := memN_one hp_
    replace hW : A4_4 H4 w := hW
    rw [hA4_4] at hW
    obtain ⟨hC, hbb, hbr, hmet, htold, hbtlt, hatn, hats, hbsl, hka, hkb, hsl, hkk, hib1, lob1, hb1, hct, hpv10, hib11, lob11, hb11, ne_b1_b11, hv4_9, hib12, lob12, hb12, ne_b1_b12, ne_b11_b12, hv4_20, _⟩ := hW
    refine ⟨(some false), _, rfl, rfl, Ok1.sub (L' := [(74, vf), (75, (vp bb)), (83, (vS (blk (H4 20)) 0 2 2))]) ⟨rfl, rfl, congrArg some hv4_20, trivial⟩ (Ok1.mono (ok_call c45 rfl (ih g2 (by omega) ([a, .mk 5 0 [a, b]]) m1 m2 false bb bt br bm rl _ _ _ _ (by simp) hq2 (fun t ht => by simp at ht; first | (rcases ht with rfl | rfl <;> assumption) | (subst ht; assumption)) (Nat.le_trans hnb hC.size) hnbt (hT _ _ (hC.below hnb (by simpa using hnbt)) hw0) ⟨hbb, hbr, hmet, hne1, hne2, hne3⟩ htold (.inr ⟨_, 0, _, rfl, by simp <;> omega, hib12, hb12⟩) (IsNs.of_two hka hct))) ?_)⟩
    rintro _ w' ⟨rfl, htold, hch0_⟩
    have hch_ : Ch [bt] _ w' := hch0_
    have hC := hC.trans (hch_.mono (by simp))
    have hbb := hbb.mv hch_ (by simp <;> omega)
    have hbr := hbr.mv hch_ (by simp <;> omega)
    have hmet := hmet.mv hch_ (by simp <;> omega)
    have hbtlt := hch_.lt hbtlt
    have hatn := hatn.mv hch_ (by simp <;> omega)
    have hats := hats.mv hch_ (by simp <;> omega)
    have hbsl := hch_.lt hbsl
    have hka : IsN w' [bt] a (vp ba) := IsN.mv hch_ (by simp) (fun x hx => .inl hx) _ _ hka
    have hkb : IsN w' [bt] b (vp bb2) := IsN.mv hch_ (by simp) (fun x hx => .inl hx) _ _ hkb
    have hsl : SlA w' [bt] (.slice (some ⟨bsl, osl, none⟩) 2 cap) 2 [(vp ba), (vp bb2)] := hsl.mv hch_ (by simp) (fun x hx => .inl hx)
    have hkk : IsNs w' [bt] [a, b] [(vp ba), (vp bb2)] := IsNs.mv hch_ (by simp) (fun x hx => .inl hx) _ _ hkk
    have hib1 := hch_.lt hib1
    have hb1 := hb1.mv hch_ (by simp <;> omega)
    have hct : IsN w' [bt] (.mk 5 0 [a, b]) pc := IsN.mv hch_ (by simp) (fun x hx => .inl hx) _ _ hct
    have hpv10 : IsN w' [bt] (pubOf a) (H4 8) := IsN.mv hch_ (by simp) (fun x hx => .inl hx) _ _ hpv10
    have hib11 := hch_.lt hib11
    have hb11 := hb11.mv hch_ (by simp <;> omega)
    have hib12 := hch_.lt hib12
    have hb12 := hb12.mv hch_ (by simp <;> omega)
    have hfin_ : A4_5 (updV H4 21 vf) w' := by rw [hA4_5]; exact ⟨hC, hbb, hbr, hmet, htold, hbtlt, hatn, hats, hbsl, hka, hkb, hsl, hkk, hib1, lob1, hb1, hct, hpv10, hib11, lob11, hb11, ne_b1_b11, hv4_9, hib12, lob12, hb12, ne_b1_b12, ne_b11_b12, hv4_20, trivial⟩
    exact fin_ rfl ⟨hfin_, rfl⟩
   ·exact HOb.pure trivial rfl rfl (fun _ _ => d_pick (b := false) rfl rfl)
   ·exact HOb.pure trivial rfl rfl (fun _ _ => d_move rfl)
   ·exact HOb.pureG ⟨rfl, trivial⟩ rfl rfl (fun _ => rfl) rfl (fun _ _ => d_move rfl)
   ·exact HOb.pureG trivial rfl rfl (fun _ => rfl) rfl (fun _ _ => d_nil rfl)
   ·exact HOb.pureG trivial rfl rfl (fun _ => rfl) rfl (fun _ _ => d_fieldAddrQ Tryd.underlying116 (m := 1) sz31 rfl rfl rfl)
   ·exact HOb.pureG trivial rfl rfl (fun _ => rfl) rfl (fun _ _ => d_fieldAddrQ Tryd.underlying31 (m := 0) sz4 rfl rfl rfl)
   ·exact HOb.factG hA4_5 trivial rfl rfl rfl rfl (fun _ => rfl) rfl (fun H4 w ⟨_, hbb, _⟩ => d_bool (c := true) (d_load1 Tryd.underlying4 rfl rfl (hbb 1 _ rfl)) hflag)
   ·exact HOb.pureG trivial rfl rfl (fun _ => rfl) rfl (fun _ _ => d_move rfl)
   ·exact HOb.pureG ⟨rfl, trivial⟩ rfl rfl (fun _ => rfl) rfl (fun _ _ => d_move rfl)
   ·exact HOb.pureG ⟨rfl, trivial⟩ rfl rfl (fun _ => rfl) rfl (fun _ _ => d_move rfl)
   ·refine ⟨trivial, fun ph_ hp_ H4 w hW => ?_⟩
    obtain rfl := memN_one hp_
    replace hW : A4_5 H4 w := hW
    rw [hA4_5] at hW
    obtain ⟨hC, hbb, hbr, hmet, htold, hbtlt, hatn, hats, hbsl, hka, hkb, hsl, hkk, hib1, lob1, hb1, hct, hpv10, hib11, lob11, hb11, ne_b1_b11, hv4_9, hib12, lob12, hb12, ne_b1_b12, ne_b11_b12, hv4_20, _⟩ := hW
    refine ⟨(some true), _, rfl, rfl, Ok1.mono (ok_buildSlice (cells := #[pc]) Tryd.underlying110 zz83 rfl (by decide) (by decide) (by exact fill1 (IsN.cellsv hct))) ?_⟩
    rintro _ w' ⟨b13, rfl, hnb_⟩
    have hch_ : Ch [] _ w' := hnb_.ch
    have lo_ := hnb_.lo hC.size
    have ne_b1_b13 := hnb_.gt hib1
    have ne_b11_b13 := hnb_.gt hib11
    have ne_b12_b13 := hnb_.gt hib12
    have hC := hC.trans (hch_.mono (by simp))
    have hbb := hbb.mv hch_ (by simp <;> omega)
    have hbr := hbr.mv hch_ (by simp <;> omega)
    have hmet := hmet.mv hch_ (by simp <;> omega)
    have htold := htold.mv hch_ (by simp <;> omega)
    have hbtlt := hch_.lt hbtlt
    have hatn := hatn.mv hch_ (by simp <;> omega)
    have hats := hats.mv hch_ (by simp <;> omega)
    have hbsl := hch_.lt hbsl
    have hka : IsN w' [bt] a (vp ba) := IsN.mv hch_ (by simp) (fun x hx => .inl hx) _ _ hka
    have hkb : IsN w' [bt] b (vp bb2) := IsN.mv hch_ (by simp) (fun x hx => .inl hx) _ _ hkb
    have hsl : SlA w' [bt] (.slice (some ⟨bsl, osl, none⟩) 2 cap) 2 [(vp ba), (vp bb2)] := hsl.mv hch_ (by simp) (fun x hx => .inl hx)
    have hkk : IsNs w' [bt] [a, b] [(vp ba), (vp bb2)] := IsNs.mv hch_ (by simp) (fun x hx => .inl hx) _ _ hkk
    have hib1 := hch_.lt hib1
    have hb1 := hb1.mv hch_ (by simp <;> omega)
    have hct : IsN w' [bt] (.mk 5 0 [a, b]) pc := IsN.mv hch_ (by simp) (fun x hx => .inl hx) _ _ hct
    have hpv10 : IsN w' [bt] (pubOf a) (H4 8) := IsN.mv hch_ (by simp) (fun x hx => .inl hx) _ _ hpv10
    have hib11 := hch_.lt hib11
    have hb11 := hb11.mv hch_ (by simp <;> omega)
    have hib12 := hch_.lt hib12
    have hb12 := hb12.mv hch_ (by simp <;> omega)
    have hib13 : b13 < w'.heap.size := hnb_.lt
    have lob13 : w0.heap.size ≤ b13 := lo_
    have hb13 : At w' b13 0 [pc] := hnb_.at
    have ne_b1_b13 : b1 < b13 := ne_b1_b13
    have ne_b11_b13 : (blk (H4 9)) < b13 := ne_b11_b13
    have ne_b12_b13 : (blk (H4 20)) < b13 := ne_b12_b13
    have hfin_ : A4_6 (updV H4 32 (vS b13 0 1 1)) w' := by rw [hA4_6]; exact ⟨hC, hbb, hbr, hmet, htold, hbtlt, hatn, hats, hbsl, hka, hkb, hsl, hkk, hib1, lob1, hb1, hct, hpv10, hib11, lob11, hb11, ne_b1_b11, hv4_9, hib12, lob12, hb12, ne_b1_b12, ne_b11_b12, hv4_20, hib13, lob13, hb13, ne_b1_b13, ne_b11_b13, ne_b12_b13, rfl, trivial⟩
    exact fin_ rfl ⟨hfin_, rfl⟩
   ·refine ⟨trivial, fun ph_ hp_ H4 w hW => ?_⟩
    obtain rfl := memN_one hp_
    replace hW : A4_6 H4 w := hW
    rw [hA4_6] at hW
    obtain ⟨hC, hbb, hbr, hmet, htold, hbtlt, hatn, hats, hbsl, hka, hkb, hsl, hkk, hib1, lob1, hb1, hct, hpv10, hib11, lob11, hb11, ne_b1_b11, hv4_9, hib12, lob12, hb12, ne_b1_b12, ne_b11_b12, hv4_20, hib13, lob13, hb13, ne_b1_b13, ne_b11_b13, ne_b12_b13, hv4_32, _⟩ := hW
    refine ⟨(some true), _, rfl, rfl, Ok1.sub (L' := [(92, vt), (93, (vp bb)), (95, (vS (blk (H4 32)) 0 1 1))]) ⟨rfl, rfl, congrArg some hv4_32, trivial⟩ (Ok1.mono (ok_call c45 rfl (ih g3 (by omega) ([.mk 5 0 [a, b]]) m2 m' r bb bt br bm rl _ _ _ _ (by simp) hq3 (fun t ht => by simp at ht; first | (rcases ht with rfl | rfl <;> assumption) | (subst ht; assumption)) (Nat.le_trans hnb hC.size) hnbt (hT _ _ (hC.below hnb (by simpa using hnbt)) hw0) ⟨hbb, hbr, hmet, hne1, hne2, hne3⟩ htold (.inr ⟨_, 0, _, rfl, by simp <;> omega, hib13, hb13⟩) (IsNs.one hct))) ?_)⟩
    rintro _ w' ⟨rfl, htold, hch0_⟩
    have hch_ : Ch [bt] _ w' := hch0_
    have hC := hC.trans (hch_.mono (by simp))
    have hbb := hbb.mv hch_ (by simp <;> omega)
    have hbr := hbr.mv hch_ (by simp <;> omega)
    have hmet := hmet.mv hch_ (by simp <;> omega)
    have hbtlt := hch_.lt hbtlt
    have hatn := hatn.mv hch_ (by simp <;> omega)
    have hats := hats.mv hch_ (by simp <;> omega)
    have hbsl := hch_.lt hbsl
    have hka : IsN w' [bt] a (vp ba) := IsN.mv hch_ (by simp) (fun x hx => .inl hx) _ _ hka
    have hkb : IsN w' [bt] b (vp bb2) := IsN.mv hch_ (by simp) (fun x hx => .inl hx) _ _ hkb
    have hsl : SlA w' [bt] (.slice (some ⟨bsl, osl, none⟩) 2 cap) 2 [(vp ba), (vp bb2)] := hsl.mv hch_ (by simp) (fun x hx => .inl hx)
    have hkk : IsNs w' [bt] [a, b] [(vp ba), (vp bb2)] := IsNs.mv hch_ (by simp) (fun x hx => .inl hx) _ _ hkk
    have hib1 := hch_.lt hib1
    have hb1 := hb1.mv hch_ (by simp <;> omega)
    have hct : IsN w' [bt] (.mk 5 0 [a, b]) pc := IsN.mv hch_ (by simp) (fun x hx => .inl hx) _ _ hct
    have hpv10 : IsN w' [bt] (pubOf a) (H4 8) := IsN.mv hch_ (by simp) (fun x hx => .inl hx) _ _ hpv10
    have hib11 := hch_.lt hib11
    have hb11 := hb11.mv hch_ (by simp <;> omega)
    have hib12 := hch_.lt hib12
    have hb12 := hb12.mv hch_ (by simp <;> omega)
    have hib13 := hch_.lt hib13
    have hb13 := hb13.mv hch_ (by simp <;> omega)
    have hfin_ : A4_7 (updV H4 33 (vB r)) w' := by rw [hA4_7]; exact ⟨hC, hbb, hbr, hmet, htold, hbtlt, hatn, hats, hbsl, hka, hkb, hsl, hkk, hib1, lob1, hb1, hct, hpv10, hib11, lob11, hb11, ne_b1_b11, hv4_9, hib12, lob12, hb12, ne_b1_b12, ne_b11_b12, hv4_20, hib13, lob13, hb13, ne_b1_b13, ne_b11_b13, ne_b12_b13, hv4_32, trivial⟩
    exact fin_ rfl ⟨hfin_, rfl⟩
   ·exact HOb.pureG trivial rfl rfl (fun _ => rfl) rfl (fun _ _ => d_pick (b := true) rfl rfl)
   ·exact HOb.pure trivial rfl rfl (fun _ _ => d_pick (b := false) rfl rfl)
   ·exact HOb.pure trivial rfl rfl (fun _ _ => d_assign rfl)
  ·intro ac w H4 hW hF
   replace hW : A4_7 H4 w := hW
   rw [hA4_7] at hW
   obtain ⟨hC, hbb, hbr, hmet, htold, hbtlt, hatn, hats, hbsl, hka, hkb, hsl, hkk, hib1, lob1, hb1, hct, hpv10, hib11, lob11, hb11, ne_b1_b11, hv4_9, hib12, lob12, hb12, ne_b1_b12, ne_b11_b12, hv4_20, hib13, lob13, hb13, ne_b1_b13, ne_b11_b13, ne_b12_b13, hv4_32, _⟩ := hW
   clear hA4_0 A4_0 hA4_1 A4_1 hA4_2 A4_2 hA4_3 A4_3 hA4_4 A4_4 hA4_5 A4_5 hA4_6 A4_6 hA4_7 A4_7
   have hF := hF.sub (L' := [(0, (vp bb)), (1, (vp bn)), (3, (vp b1)), (4, (vB r)), (5, (Value.func (.func 95) #[] #[(vp b1)])), (6, pc), (11, (vI 4)), (12, vf), (14, vf), (56, vt)]) ⟨rfl, rfl, rfl, rfl, rfl, rfl, rfl, rfl, rfl, rfl, trivial⟩
   refine then_n ?_
   refine wp_ret ?_
   refine block_ret ?_
   refine then_ret ?_
   refine body_ret hF (results1 Tryd.results82 (RV.tmp hF rfl)) ?_
   exact ⟨rfl, htold, hC⟩
theorem makes_step {T0 : World → Prop} {nb : Nat} (hT : ∀ w w', Below nb w w' → T0 w → T0 w') (hjoin : JoinOk) {W : Wd} {met : Told} {f : Nat} (ih : ∀ g, g < f → BuildsOk T0 nb W met g) : MakesOk T0 nb W met f := by
 intro t m m' r bb bt br bm bn rl w hany hfit hnb hnbt hw0 hbd htold hnd
 cases t with
 | mk k n ks =>
  by_cases h1 : k = 1
  ·subst h1; exact makes_atom hT hjoin ih w hany hfit hnb hnbt hw0 hbd htold hnd
  by_cases h3 : k = 3
  ·subst h3
   obtain ⟨a, b, rfl, _, _⟩ := hfit.1.two' (by decide) (by decide) (by decide)
   exact makes_dh hT hjoin ih w hany hfit hnb hnbt hw0 hbd htold hnd
  by_cases h4 : k = 4
  ·subst h4
   obtain ⟨a, b, rfl, _, _⟩ := hfit.1.two' (by decide) (by decide) (by decide)
   exact makes_kem hT hjoin ih w hany hfit hnb hnbt hw0 hbd htold hnd
  by_cases h5 : k = 5
  ·subst h5
   obtain ⟨a, b, rfl, _, _⟩ := hfit.1.two' (by decide) (by decide) (by decide)
   exact makes_ct hT hjoin ih w hany hfit hnb hnbt hw0 hbd htold hnd
  exact makes_gen hT hjoin ih h1 h3 h4 h5 w hany hfit hnb hnbt hw0 hbd htold hnd
theorem builds_ok {T0 : World → Prop} {nb : Nat} (hT : ∀ w w', Below nb w w' → T0 w → T0 w') (hjoin : JoinOk) {W : Wd} {met : Told} (f : Nat) : BuildsOk T0 nb W met f := by
 induction f using Nat.strongRecOn with
 | _ f ih => exact builds_step hT hjoin fun g hg => makes_step hT hjoin fun g' hg' => ih g' (Nat.lt_trans hg' hg)
end Go.Mi.Term
namespace Go.Mi
open Go.RowKit
/-- two changes, the second one also of new blocks -/
theorem Ch.trans' {Y Z : List Nat} {a b c : World} (h : Ch Y a b) (k : Ch Z b c) (hz : ∀ z, z ∈ Z → z ∈ Y ∨ a.heap.size ≤ z) : Ch Y a c :=
  ⟨k.os.trans h.os, k.tape.trans h.tape, k.output.trans h.output, Nat.le_trans h.size k.size, fun i hi hn => (k.blk i (Nat.lt_of_lt_of_le hi h.size) fun hm => by rcases hz i hm with h | h; exact hn h; omega).trans (h.blk i hi hn)⟩
section
variable {P : Program} {n : Nat} {L : List (Nat × Value)} {w : World} {ds : Option Nat} {ty : TypeId} {pos : String} {af : Array Edge} {gu : Option (Nat × Bool)}
/-- one more behind a slice that the call owns: the cells that were there stay, in the old block too -/
theorem ok_append1k {s x : Operand} {t e : TypeId} {z : Value} {base bytes n' c b o : Nat} {v u : Value} {xs : List Value} (ht : P.underlying t = some (.slice e)) (hi : (P.info? e).map (fun i => (i.size, i.bytes, i.zero)) = some (1, bytes, some z))
    (hzs : z.cells.size = 1) (hs : ev L s = some v) (hx : ev L x = some (.slice (some ⟨b, o, none⟩) 1 c)) (hown : Own w base e 1 v n' xs)
    (hn : At w b o [u]) (h1 : u.oneCell' = true) (hby : (n' + 1) * bytes ≤ 140737488355328) (h63 : n' + 1 ≤ maxLen) (hbase : base ≤ w.heap.size) :
    Ok1 P ⟨ds, .call ⟨.builtin .append, #[s, x], #[t, t]⟩, ty, pos, af, gu⟩ n L w fun v' w' => Own w' base e 1 v' (n' + 1) (xs ++ [u]) ∧ Ch (oblk v) w w' ∧ (oblk v' = oblk v ∨ oblk v' = [w.heap.size]) ∧ (∀ g, g ∈ oblk v → At w' g 0 xs) := by
  obtain ⟨inf, hi1, hz⟩ := Option.map_eq_some_iff.1 hi
  simp only [Prod.mk.injEq] at hz
  obtain ⟨hz1, hz2, hz3⟩ := hz
  have hl : [u].length = 1 * 1 := rfl
  have hnn : ∀ (j : Nat) (q : Value), [u][j]? = some q → w.cell? ((⟨b, o, none⟩ : Addr).add j) = some q := fun j q hq => by rw [add_none]; exact hn j q hq
  have h11 : ∀ q ∈ [u], q.oneCell' = true := fun q hq => by simp at hq; subst hq; exact h1
  obtain ⟨v', w', hr, h2, h3, h4, h5⟩ := run_append_own_at (P := P) w base t ty e inf z 1 bytes ht hi1 hz3 hz1 hz2 hzs (by omega) v n' xs hown ⟨b, o, none⟩ 1 c [u] hl hnn h11 h63 hby hbase
  have hkeep : ∀ g, g ∈ oblk v → At w' g 0 xs := by
    intro g hg
    rcases hown.2 with ⟨rfl, rfl⟩ | ⟨g', cap, cur, rfl, hbg, hgb, hnc, hcm, hcs, htake⟩
    · simp [oblk] at hg
    · simp only [oblk, List.mem_singleton] at hg
      subst hg
      have hat0 : At w g 0 xs := by
        rcases hown.at with ⟨h, _⟩ | ⟨b', cap', h, _, ha⟩
        · cases h
        · cases h; exact ha
      by_cases hroom : n' + 1 ≤ cap
      · have hr2 := run_append_room (P := P) w t ty e inf ht hi1 g n' cap cur hgb ⟨b, o, none⟩ 1 c [u] (by rw [hz1]; rfl) hnn h11 hroom (by rw [hz1, hcs]; simp; omega)
        rw [hr] at hr2
        cases hr2
        rcases Own.at h2 with ⟨h, _⟩ | ⟨b', cap', h, _, ha⟩
        · cases h
        · cases h
          exact (At.app.1 ha).1
      · have holds : ∀ (j : Nat) (q : Value), xs[j]? = some q → w.cell? ((⟨g, 0, none⟩ : Addr).add j) = some q := fun j q hq => by rw [add_none]; exact hat0 j q hq
        have hr2 := run_append_grow (P := P) w t ty e inf z ht hi1 hz3 ⟨g, 0, none⟩ n' cap xs (by rw [hz1]; exact hown.1) holds ⟨b, o, none⟩ 1 c [u] (by rw [hz1]; rfl) hnn (by omega) (by simp only [maxLen] at h63; omega) (by rw [hz2]; exact growslice_fits (by simp only [maxLen] at h63; omega) hby)
        rw [hr] at hr2
        cases hr2
        have hg' : g < w.heap.size := by
          rcases Nat.lt_or_ge g w.heap.size with h' | h'
          · exact h'
          · rw [Array.getElem?_eq_none h'] at hgb; cases hgb
        refine hat0.mv (Y := []) ⟨rfl, rfl, rfl, by simp, fun k hk _ => heap_alloc_old w.drew _ k hk⟩ (by simp)
  have hd : Det P ⟨ds, .call ⟨.builtin .append, #[s, x], #[t, t]⟩, ty, pos, af, gu⟩ n L w v' w' := Det.of_run fun a hF => by
    simp [execOp, hF.eval hs, hF.eval hx, resolve, invoke, builtin, hr]
  refine hd.mono fun v'' w'' ⟨ha, hb⟩ => ?_
  subst ha; subst hb
  have ob : ∀ u : Value, ∀ g, u.ownBlock = some g ↔ oblk u = [g] := by
    intro u g
    cases u with
    | slice a _ _ => cases a <;> simp [Value.ownBlock, oblk]
    | _ => simp [Value.ownBlock, oblk]
  have ob0 : ∀ u : Value, u.ownBlock = none ↔ oblk u = [] := by
    intro u
    cases u with
    | slice a _ _ => cases a <;> simp [Value.ownBlock, oblk]
    | _ => simp [Value.ownBlock, oblk]
  refine ⟨h2, ⟨h3.os, h3.tape, h3.output, h3.size, fun g hg hn => h3.block g hg fun he => hn ?_⟩, ?_, hkeep⟩
  · rw [(ob v g).1 he.symm]; simp
  · rcases h5 with h5 | h5
    · left
      cases hv : v.ownBlock with
      | none => rw [(ob0 v).1 hv, (ob0 v'').1 (h5.trans hv)]
      | some g => rw [(ob v g).1 hv, (ob v'' g).1 (h5.trans hv)]
    · right; exact (ob v'' _).1 h5
end
end Go.Mi
namespace Go.Mi.Term
open Go.Mi Go.Proofs Go.RowKit
/-- a row of nodes on the heap: its struct at br, its map at bm, its slice lv -/
structure RwIs (w : World) (base : Nat) (X : List Nat) (br bm : Nat) (lv : Value) (r : Rw) : Prop where
  st : w.heap[br]? = some (.cells #[lv, .map (some bm)] 118 (0, 0))
  met : MapIs w bm r.met
  own : ∃ xs, Own w base 83 1 lv r.l.length xs ∧ IsNs w (oblk lv ++ X) r.l xs
  nr : br ∉ oblk lv
  nm : bm ∉ oblk lv
  ne : br ≠ bm
theorem RwIs.lt {w : World} {base : Nat} {X : List Nat} {br bm : Nat} {lv : Value} {r : Rw} (h : RwIs w base X br bm lv r) : br < w.heap.size := by
  rcases Nat.lt_or_ge br w.heap.size with h' | h'
  · exact h'
  · have := h.st; rw [Array.getElem?_eq_none h'] at this; cases this
theorem RwIs.mv {w w' : World} {base : Nat} {X Y : List Nat} {br bm : Nat} {lv : Value} {r : Rw} (h : RwIs w base X br bm lv r) (k : Ch Y w w') (hy : ∀ y, y ∈ Y → y ∈ X) (h1 : br ∉ Y) (h2 : bm ∉ Y) (h3 : ∀ y, y ∈ oblk lv → y ∉ Y) : RwIs w' base X br bm lv r := by
  obtain ⟨xs, h4, h5⟩ := h.own
  exact ⟨k.blk0 h.st h1, h.met.mv k h2, ⟨xs, h4.mv k h3, IsNs.mv k (fun y hm => List.mem_append_right _ (hy y hm)) (fun x hx => .inl hx) _ _ h5⟩, h.nr, h.nm, h.ne⟩
/-- what a call on a row leaves of it -/
def RwTo (w w' : World) (base : Nat) (X : List Nat) (br bm : Nat) (lv : Value) (r r' : Rw) (lv' : Value) : Prop :=
  RwIs w' base X br bm lv' r' ∧ Ch (br :: bm :: oblk lv) w w' ∧ (oblk lv' = oblk lv ∨ ∀ y, y ∈ oblk lv' → w.heap.size ≤ y) ∧ r.l.length ≤ r'.l.length ∧
    (∀ g xs0, g ≠ br → g ≠ bm → (g ∈ oblk lv → xs0.length ≤ r.l.length) → At w g 0 xs0 → At w' g 0 xs0)
theorem RwTo.refl {w : World} {base : Nat} {X : List Nat} {br bm : Nat} {lv : Value} {r : Rw} (h : RwIs w base X br bm lv r) : RwTo w w base X br bm lv r r lv :=
  ⟨h, Ch.refl _ _, .inl rfl, Nat.le_refl _, fun _ _ _ _ _ h => h⟩
theorem RwTo.trans {w w1 w2 : World} {base : Nat} {X : List Nat} {br bm : Nat} {lv lv1 lv2 : Value} {r r1 r2 : Rw} (h : RwTo w w1 base X br bm lv r r1 lv1) (k : RwTo w1 w2 base X br bm lv1 r1 r2 lv2) : RwTo w w2 base X br bm lv r r2 lv2 := by
  obtain ⟨_, h2, h3, h4, h5⟩ := h
  obtain ⟨k1, k2, k3, k4, k5⟩ := k
  refine ⟨k1, h2.trans' k2 fun y hy => ?_, ?_, by omega, fun g xs0 hg1 hg2 hl ha => ?_⟩
  · simp only [List.mem_cons] at hy ⊢
    rcases hy with hy | hy | hy
    · exact .inl (.inl hy)
    · exact .inl (.inr (.inl hy))
    · rcases h3 with h3 | h3
      · rw [h3] at hy; exact .inl (.inr (.inr hy))
      · exact .inr (h3 y hy)
  · rcases k3 with k3 | k3
    · rw [k3]; exact h3
    · exact .inr fun y hy => Nat.le_trans h2.size (k3 y hy)
  · refine k5 g xs0 hg1 hg2 (fun hm => ?_) (h5 g xs0 hg1 hg2 hl ha)
    rcases h3 with h3 | h3
    · rw [h3] at hm; have := hl hm; omega
    · have := h3 g hm
      cases xs0 with
      | nil => simp
      | cons x xs0 => have := ha.lt; omega
/-- nodes of elsewhere, behind a call on a row -/
theorem RwTo.ns {w w' : World} {base : Nat} {X : List Nat} {br bm : Nat} {lv lv' : Value} {r r' : Rw} (h : RwTo w w' base X br bm lv r r' lv') (hr : br ∈ X) (hm : bm ∈ X) {ts : List Tm} {xs : List Value} (hn : IsNs w (oblk lv ++ X) ts xs) : IsNs w' (oblk lv' ++ X) ts xs := by
  refine IsNs.mv h.2.1 (fun y hy => ?_) (fun x hx => ?_) _ _ hn
  · simp only [List.mem_cons, List.mem_append] at hy ⊢
    rcases hy with rfl | rfl | hy
    · exact .inr hr
    · exact .inr hm
    · exact .inl hy
  · simp only [List.mem_append] at hx ⊢
    rcases hx with hx | hx
    · rcases h.2.2.1 with h3 | h3
      · rw [h3] at hx; exact .inl (.inl hx)
      · exact .inr (h3 x hx)
    · exact .inl (.inr hx)
theorem RwTo.n {w w' : World} {base : Nat} {X : List Nat} {br bm : Nat} {lv lv' : Value} {r r' : Rw} (h : RwTo w w' base X br bm lv r r' lv') (hr : br ∈ X) (hm : bm ∈ X) {t : Tm} {v : Value} (hn : IsN w (oblk lv ++ X) t v) : IsN w' (oblk lv' ++ X) t v := by
  have := h.ns hr hm (IsNs.one hn)
  simp only [IsNs] at this
  obtain ⟨v', _, h1, h2, rfl⟩ := this
  cases h1
  exact h2
theorem own_keep {w w' : World} {g : Nat} {xs xs0 : List Value} (h : At w g 0 xs) (h' : At w' g 0 xs) (hl : xs0.length ≤ xs.length) (h0 : At w g 0 xs0) : At w' g 0 xs0 := fun i u hu => by
  have hi : i < xs.length := by
    rcases Nat.lt_or_ge i xs0.length with h | h
    · omega
    · rw [List.getElem?_eq_none h] at hu; cases hu
  have h1 := h i _ (List.getElem?_eq_getElem hi)
  rw [h0 i u hu] at h1
  cases h1
  exact h' i _ (List.getElem?_eq_getElem hi)
end Go.Mi.Term
namespace Go.Mi
open Go.RowKit
theorem results0 {P : Program} {a : Act} {w : World} {fn : Func} (h : fn.results = #[]) : (results fn a.tmps).run P w = .ok (.tuple #[]) w := by
  rw [results_eq, h]
  simp
end Go.Mi
namespace Go.Mi.Term
open Go.Mi Go.Proofs Go.RowKit
set_option linter.unusedVariables false
theorem lt_of_blk {w : World} {b : Nat} {x : Obj} (h : w.heap[b]? = some x) : b < w.heap.size := by
 rcases Nat.lt_or_ge b w.heap.size with h' | h'
 ·exact h'
 ·rw [Array.getElem?_eq_none h'] at h; cases h
theorem own_cell1 {w : World} {base m n : Nat} {e : TypeId} {v : Value} {xs : List Value} (h : Own w base e m v n xs) : v.oneCell' = true := by
 rcases h.at with ⟨rfl, _⟩ | ⟨b, cap, rfl, _⟩ <;> rfl
theorem own_at {w : World} {base m n g : Nat} {e : TypeId} {v : Value} {xs : List Value} (h : Own w base e m v n xs) (hg : g ∈ oblk v) : At w g 0 xs := by
 rcases h.at with ⟨rfl, _⟩ | ⟨b, cap, rfl, _, ha⟩
 ·simp [oblk] at hg
 ·simp [oblk] at hg; subst hg; exact ha

set_option maxRecDepth 100000 in
set_option maxHeartbeats 4000000 in
theorem add_calls {base : Nat} {X : List Nat} {br bm bn : Nat} {lv : Value} {r : Rw} {n : Tm} (w0 : World) (hbase : base ≤ w0.heap.size) (hX1 : br ∈ X) (hX2 : bm ∈ X) (hr : RwIs w0 base X br bm lv r) (hn1 : IsN w0 (oblk lv ++ X) n (.pointer (some ⟨bn, 0, none⟩))) (hlen : r.l.length ≤ 1099511627776) :
 Calls Tryd.prog 79 (List.toArray [.pointer (some ⟨br, 0, none⟩), .pointer (some ⟨bn, 0, none⟩)]) w0 (Ret fun v w' => v = .tuple #[] ∧ ∃ lv', RwTo w0 w' base X br bm lv r (r.add n) lv') := by
 obtain ⟨hst, hmet, ⟨xs, hown, hns⟩, hnr, hnm, hne⟩ := hr
 have hown0 := hown
 have hkeep : ∀ g xs0, g ≠ br → g ≠ bm → (g ∈ oblk lv → xs0.length ≤ r.l.length) → At w0 g 0 xs0 → At w0 g 0 xs0 := fun _ _ _ _ _ h => h
 obtain ⟨bn', kn, nn, sn, he, hbn, hatn⟩ := hn1.form
 cases he
 simp only [List.mem_append, not_or] at hbn
 have hbn1 := hbn.1
 have hbnm : bn ≠ bm := fun h => hbn.2 (h ▸ hX2)
 refine calls_of Tryd.func79 rfl Tryd.ntmps79 rfl fun ac hF => ?_
 have hC : Ch (br :: bm :: oblk lv) w0 w0 := Ch.refl _ _
 have hF := hF.sub (L' := [(0, (vp br)), (1, (vp bn))]) ⟨rfl, rfl, trivial⟩
 refine wp_seq ?_
 obtain ⟨A1_0, hA1_0⟩ : ∃ A : (Nat → Value) → World → Prop, A = fun _ w => (Ch (br :: bm :: oblk lv) w0 w) ∧ (w.heap[br]? = some (.cells #[lv, (Value.map (some bm))] 118 (0, 0))) ∧ (MapIs w bm r.met) ∧ (At w bn 0 [(vI kn), (vI nn), sn, (vT (txt n))]) ∧ (Own w base 83 1 lv r.l.length xs) ∧ (IsNs w (oblk lv ++ X) r.l xs) ∧ (IsN w (oblk lv ++ X) n (.pointer (some ⟨bn, 0, none⟩))) ∧ (∀ g xs0, g ≠ br → g ≠ bm → (g ∈ oblk lv → xs0.length ≤ r.l.length) → At w0 g 0 xs0 → At w g 0 xs0) ∧ True := ⟨_, rfl⟩
 refine region_hist mo (fun p_ H_ w_ => (([A1_0] : List ((Nat → Value) → World → Prop)).getD p_ (fun _ _ => True)) H_ w_) [] (rows := [hr_ [] [(0, (vp br))] [0] (vp br), hr_ [(0, 4)] [] [0] (vp br), hr_ [(1, 5)] [] [0] (vP br 1), hr_ [(2, 6)] [] [0] (Value.map (some bm)), hr_ [] [(1, (vp bn))] [0] (vp bn), hr_ [(4, 8)] [] [0] (vp bn), hr_ [(5, 9)] [] [0] (vP bn 3), hr_ [(6, 10)] [] [0] (vT (txt n)), hr_ [(3, 7), (7, 11)] [] [0] (vI (tl r.met (txt n))), hr_ [(8, 12)] [] [0] (vB (decide ((tl r.met (txt n)) = 0)))]) (by kernel_rfl) hF (fun H_ => ?_) ?_ ?_
 ·have hch_ := Ch.drew w0
  have hfin_ : A1_0 H_ { w0 with drawn := w0.drawn + 1 } := by rw [hA1_0]; exact ⟨hC.trans (hch_.mono (by intro y hy; first | (simp at hy; done) | (simpa using hy; done) | (simp [hy]; done) | (simp at hy; simp [hy]; done))), Ch.blk0 hch_ hst (by first | assumption | (simp <;> omega)), hmet.mv hch_ (by first | assumption | (simp <;> omega)), hatn.mv hch_ (by first | assumption | (simp <;> omega)), hown.mv hch_ (fun b hb => by first | (simp; done) | (simp; intro h; subst h; contradiction)), IsNs.mv hch_ (fun y hy => by first | (simp at hy; done) | (simp at hy; subst hy; simp [hX1, hX2])) (fun x hx => .inl hx) _ _ hns, IsN.mv hch_ (fun y hy => by first | (simp at hy; done) | (simp at hy; subst hy; simp [hX1, hX2])) (fun x hx => .inl hx) _ _ hn1, (fun g xs0 hg1 hg2 hg3 hg4 => (hkeep g xs0 hg1 hg2 hg3 hg4).mv hch_ (by first | (simp; done) | (simp [hg1, hg2]; done))), trivial⟩
  exact hfin_
 ·refine ⟨?_, ?_, ?_, ?_, ?_, ?_, ?_, ?_, ?_, ?_, trivial⟩
  ·exact HOb.pure ⟨rfl, trivial⟩ rfl rfl (fun _ _ => d_move rfl)
  ·exact HOb.pure trivial rfl rfl (fun _ _ => d_nil rfl)
  ·exact HOb.pure trivial rfl rfl (fun _ _ => d_fieldAddrQ Tryd.underlying118 (m := 0) sz114 rfl rfl rfl)
  ·exact HOb.fact hA1_0 trivial rfl rfl rfl rfl (fun H1 w ⟨_, hst, _⟩ => d_load1 Tryd.underlying114 rfl rfl ((At.of_blk hst) 1 _ rfl))
  ·exact HOb.pure ⟨rfl, trivial⟩ rfl rfl (fun _ _ => d_move rfl)
  ·exact HOb.pure trivial rfl rfl (fun _ _ => d_nil rfl)
  ·exact HOb.pure trivial rfl rfl (fun _ _ => d_fieldAddrQ Tryd.underlying112 (m := 0) sz9 rfl rfl rfl)
  ·exact HOb.fact hA1_0 trivial rfl rfl rfl rfl (fun H1 w ⟨_, _, _, hatn, _⟩ => d_load1 Tryd.underlying9 rfl rfl (hatn 3 _ rfl))
  ·exact HOb.fact hA1_0 trivial rfl rfl rfl rfl (fun H1 w ⟨_, _, hmet, _⟩ => d_lookup (m := r.met) (k := txt n) Tryd.underlying114 Tryd.underlying9 (by kernel_rfl) rfl rfl hmet)
  ·exact HOb.pure trivial rfl rfl (fun _ _ => d_eql rfl rfl)
 ·intro ac w H1 hW hF
  replace hW : A1_0 H1 w := hW
  rw [hA1_0] at hW
  obtain ⟨hC, hst, hmet, hatn, hown, hns, hn1, hkeep, _⟩ := hW
  clear hA1_0 A1_0
  have hF := hF.sub (L' := [(0, (vp br)), (1, (vp bn)), (13, (vB (decide ((tl r.met (txt n)) = 0))))]) ⟨rfl, rfl, rfl, trivial⟩
  refine then_n ?_
  refine wp_if hF rfl (fun h => ?_) (fun h => ?_)
  ·have h0 := of_decide_eq_true h
   clear h
   refine wp_seq ?_
   obtain ⟨A2_0, hA2_0⟩ : ∃ A : (Nat → Value) → World → Prop, A = fun _ w => (Ch (br :: bm :: oblk lv) w0 w) ∧ (w.heap[br]? = some (.cells #[lv, (Value.map (some bm))] 118 (0, 0))) ∧ (MapIs w bm r.met) ∧ (At w bn 0 [(vI kn), (vI nn), sn, (vT (txt n))]) ∧ (Own w base 83 1 lv r.l.length xs) ∧ (IsNs w (oblk lv ++ X) r.l xs) ∧ (IsN w (oblk lv ++ X) n (.pointer (some ⟨bn, 0, none⟩))) ∧ (∀ g xs0, g ≠ br → g ≠ bm → (g ∈ oblk lv → xs0.length ≤ r.l.length) → At w0 g 0 xs0 → At w g 0 xs0) ∧ True := ⟨_, rfl⟩
   obtain ⟨A2_1, hA2_1⟩ : ∃ A : (Nat → Value) → World → Prop, A = fun _ w => (Ch (br :: bm :: oblk lv) w0 w) ∧ (w.heap[br]? = some (.cells #[lv, (Value.map (some bm))] 118 (0, 0))) ∧ (MapIs w bm (st r.met (txt n) 1)) ∧ (At w bn 0 [(vI kn), (vI nn), sn, (vT (txt n))]) ∧ (Own w base 83 1 lv r.l.length xs) ∧ (IsNs w (oblk lv ++ X) r.l xs) ∧ (IsN w (oblk lv ++ X) n (.pointer (some ⟨bn, 0, none⟩))) ∧ (∀ g xs0, g ≠ br → g ≠ bm → (g ∈ oblk lv → xs0.length ≤ r.l.length) → At w0 g 0 xs0 → At w g 0 xs0) ∧ True := ⟨_, rfl⟩
   refine region_hist mo (fun p_ H_ w_ => (([A2_0, A2_1] : List ((Nat → Value) → World → Prop)).getD p_ (fun _ _ => True)) H_ w_) [10] (rows := [hr_ [] [(0, (vp br))] [0] (vp br), hr_ [(0, 14)] [] [0] (vp br), hr_ [(1, 15)] [] [0] (vP br 1), hr_ [(2, 16)] [] [0] (Value.map (some bm)), hr_ [] [(1, (vp bn))] [0] (vp bn), hr_ [(4, 18)] [] [0] (vp bn), hr_ [(5, 19)] [] [0] (vP bn 3), hr_ [(6, 20)] [] [0] (vT (txt n)), hr_ [(3, 17), (7, 21)] [] [0] (vI (tl r.met (txt n))), hr_ [(8, 22)] [] [0] (vI 1), ⟨[(3, 17), (7, 21), (9, 23)], [], [0], [10], fun H2 => H2 10, fun H2 K_ h_ => by simp only [h_ 10 (by simp)]⟩]) (by kernel_rfl) hF (fun H_ => ?_) ?_ ?_
   ·have hch_ := Ch.drew w
    have hfin_ : A2_0 H_ { w with drawn := w.drawn + 1 } := by rw [hA2_0]; exact ⟨hC.trans (hch_.mono (by intro y hy; first | (simp at hy; done) | (simpa using hy; done) | (simp [hy]; done) | (simp at hy; simp [hy]; done))), Ch.blk0 hch_ hst (by first | assumption | (simp <;> omega)), hmet.mv hch_ (by first | assumption | (simp <;> omega)), hatn.mv hch_ (by first | assumption | (simp <;> omega)), hown.mv hch_ (fun b hb => by first | (simp; done) | (simp; intro h; subst h; contradiction)), IsNs.mv hch_ (fun y hy => by first | (simp at hy; done) | (simp at hy; subst hy; simp [hX1, hX2])) (fun x hx => .inl hx) _ _ hns, IsN.mv hch_ (fun y hy => by first | (simp at hy; done) | (simp at hy; subst hy; simp [hX1, hX2])) (fun x hx => .inl hx) _ _ hn1, (fun g xs0 hg1 hg2 hg3 hg4 => (hkeep g xs0 hg1 hg2 hg3 hg4).mv hch_ (by first | (simp; done) | (simp [hg1, hg2]; done))), trivial⟩
    exact hfin_
   ·refine ⟨?_, ?_, ?_, ?_, ?_, ?_, ?_, ?_, ?_, ?_, ?_, trivial⟩
    ·exact HOb.pure ⟨rfl, trivial⟩ rfl rfl (fun _ _ => d_move rfl)
    ·exact HOb.pure trivial rfl rfl (fun _ _ => d_nil rfl)
    ·exact HOb.pure trivial rfl rfl (fun _ _ => d_fieldAddrQ Tryd.underlying118 (m := 0) sz114 rfl rfl rfl)
    ·exact HOb.fact hA2_0 trivial rfl rfl rfl rfl (fun H2 w ⟨_, hst, _⟩ => d_load1 Tryd.underlying114 rfl rfl ((At.of_blk hst) 1 _ rfl))
    ·exact HOb.pure ⟨rfl, trivial⟩ rfl rfl (fun _ _ => d_move rfl)
    ·exact HOb.pure trivial rfl rfl (fun _ _ => d_nil rfl)
    ·exact HOb.pure trivial rfl rfl (fun _ _ => d_fieldAddrQ Tryd.underlying112 (m := 0) sz9 rfl rfl rfl)
    ·exact HOb.fact hA2_0 trivial rfl rfl rfl rfl (fun H2 w ⟨_, _, _, hatn, _⟩ => d_load1 Tryd.underlying9 rfl rfl (hatn 3 _ rfl))
    ·exact HOb.fact hA2_0 trivial rfl rfl rfl rfl (fun H2 w ⟨_, _, hmet, _⟩ => d_lookup (m := r.met) (k := txt n) Tryd.underlying114 Tryd.underlying9 (by kernel_rfl) rfl rfl hmet)
    ·refine ⟨trivial, fun ph_ hp_ H2 w hW => ?_⟩
     obtain rfl := memN_one hp_
     have hW0 := hW
     replace hW : A2_0 H2 w := hW
     rw [hA2_0] at hW
     obtain ⟨hC, hst, hmet, hatn, hown, hns, hn1, hkeep, _⟩ := hW
     exact Det.ohc rfl hW0 (d_val (y := 1) (d_add rfl rfl (wrap_i64 (by omega) (by omega))) (by omega))
    ·refine ⟨trivial, fun ph_ hp_ H2 w hW => ?_⟩
     obtain rfl := memN_one hp_
     replace hW : A2_0 H2 w := hW
     rw [hA2_0] at hW
     obtain ⟨hC, hst, hmet, hatn, hown, hns, hn1, hkeep, _⟩ := hW
     refine Ok1.mono (ok_mapUpdate (m := r.met) (k := txt n) (v := 1) Tryd.underlying114 Tryd.underlying9 rfl rfl rfl hmet) ?_
     rintro v_ w' ⟨hmet, hch0_⟩
     have hch_ : Ch [bm] _ w' := hch0_
     have hC := hC.trans (hch_.mono (by intro y hy; first | (simp at hy; done) | (simpa using hy; done) | (simp [hy]; done) | (simp at hy; simp [hy]; done)))
     have hst := Ch.blk0 hch_ hst (by first | assumption | (simp <;> omega))
     have hatn := hatn.mv hch_ (by first | assumption | (simp <;> omega))
     have hown := hown.mv hch_ (fun b hb => by first | (simp; done) | (simp; intro h; subst h; contradiction))
     have hns : IsNs w' (oblk lv ++ X) r.l xs := IsNs.mv hch_ (fun y hy => by first | (simp at hy; done) | (simp at hy; subst hy; simp [hX1, hX2])) (fun x hx => .inl hx) _ _ hns
     have hn1 : IsN w' (oblk lv ++ X) n (.pointer (some ⟨bn, 0, none⟩)) := IsN.mv hch_ (fun y hy => by first | (simp at hy; done) | (simp at hy; subst hy; simp [hX1, hX2])) (fun x hx => .inl hx) _ _ hn1
     have hkeep := (fun g xs0 hg1 hg2 hg3 hg4 => (hkeep g xs0 hg1 hg2 hg3 hg4).mv hch_ (by first | (simp; done) | (simp [hg1, hg2]; done)))
     have hfin_ : A2_1 (updV H2 10 v_) w' := by rw [hA2_1]; exact ⟨hC, hst, hmet, hatn, hown, hns, hn1, hkeep, trivial⟩
     exact fin_ rfl ⟨hfin_, rfl⟩
   ·intro ac w H2 hW hF
    replace hW : A2_1 H2 w := hW
    rw [hA2_1] at hW
    obtain ⟨hC, hst, hmet, hatn, hown, hns, hn1, hkeep, _⟩ := hW
    clear hA2_0 A2_0 hA2_1 A2_1
    have hF := hF.sub (L' := [(0, (vp br)), (1, (vp bn)), (13, (vB (decide ((tl r.met (txt n)) = 0))))]) ⟨rfl, rfl, rfl, trivial⟩
    refine then_n ?_
    refine wp_region_lit ?_
    refine wl (d_move rfl) rfl hF (fun ac hF => ?_)
    refine wl (d_move rfl) rfl hF (fun ac hF => ?_)
    refine wl (d_nil rfl) rfl hF (fun ac hF => ?_)
    refine wl (d_fieldAddrQ Tryd.underlying118 (m := 0) sz110 rfl rfl rfl) rfl hF (fun ac hF => ?_)
    refine wl (d_load1 Tryd.underlying110 rfl rfl ((At.of_blk hst) 0 _ rfl)) rfl hF (fun ac hF => ?_)
    refine wl (d_move rfl) rfl hF (fun ac hF => ?_)
    refine wlR (ok_buildSlice (cells := #[(vp bn)]) Tryd.underlying110 zz83 rfl (by decide) (by decide) (by exact fill1 rfl)) rfl hF ?_
    rintro _ w ac ⟨b1, rfl, hnb_⟩ hF
    have hch_ : Ch [] _ w := hnb_.ch
    have lo_ := hnb_.lo hC.size
    have hC := hC.trans (hch_.mono (by intro y hy; first | (simp at hy; done) | (simpa using hy; done) | (simp [hy]; done) | (simp at hy; simp [hy]; done)))
    have hst := Ch.blk0 hch_ hst (by first | assumption | (simp <;> omega))
    have hmet := hmet.mv hch_ (by simp <;> omega)
    have hatn := hatn.mv hch_ (by first | assumption | (simp <;> omega))
    have hown := hown.mv hch_ (fun b hb => by first | (simp; done) | (simp; intro h; subst h; contradiction))
    have hns : IsNs w (oblk lv ++ X) r.l xs := IsNs.mv hch_ (fun y hy => by first | (simp at hy; done) | (simp at hy; subst hy; simp [hX1, hX2])) (fun x hx => .inl hx) _ _ hns
    have hn1 : IsN w (oblk lv ++ X) n (.pointer (some ⟨bn, 0, none⟩)) := IsN.mv hch_ (fun y hy => by first | (simp at hy; done) | (simp at hy; subst hy; simp [hX1, hX2])) (fun x hx => .inl hx) _ _ hn1
    have hkeep := (fun g xs0 hg1 hg2 hg3 hg4 => (hkeep g xs0 hg1 hg2 hg3 hg4).mv hch_ (by first | (simp; done) | (simp [hg1, hg2]; done)))
    have hib1 : b1 < w.heap.size := hnb_.lt
    have lob1 : w0.heap.size ≤ b1 := lo_
    have hb1 : At w b1 0 [(vp bn)] := hnb_.at
    refine wlR (ok_append1k (b := b1) (o := 0) (u := .pointer (some ⟨bn, 0, none⟩)) Tryd.underlying110 ii83 rfl rfl rfl hown hb1 rfl (by omega) (by unfold maxLen; omega) (Nat.le_trans hbase hC.size)) rfl hF ?_
    rintro lv1 w ac ⟨hown, hch0_, hob, hkp⟩ hF
    have hch_ : Ch (oblk lv) _ w := hch0_
    have hsz_ := hC.size
    have hxx : ∀ x, x ∈ oblk lv1 ++ X → x ∈ oblk lv ++ X ∨ _ ≤ x := fun x hx => by
     rcases List.mem_append.1 hx with hx | hx
     ·rcases hob with hob | hob
      ·rw [hob] at hx; exact .inl (List.mem_append_left _ hx)
      ·rw [hob] at hx; simp at hx; exact .inr (Nat.le_of_eq hx.symm)
     ·exact .inl (List.mem_append_right _ hx)
    have hbr_ := hst
    have hnr1 : br ∉ oblk lv1 := fun hy => by
     have h1_ := lt_of_blk hst
     rcases hob with hob | hob
     ·rw [hob] at hy; exact hnr hy
     ·rw [hob] at hy; simp at hy; omega
    have hnm1 : bm ∉ oblk lv1 := fun hy => by
     have h1_ := hmet.lt
     rcases hob with hob | hob
     ·rw [hob] at hy; exact hnm hy
     ·rw [hob] at hy; simp at hy; omega
    have hfr : oblk lv1 = oblk lv ∨ ∀ y, y ∈ oblk lv1 → w0.heap.size ≤ y := by
     rcases hob with hob | hob
     ·exact .inl hob
     ·refine .inr fun y hy => ?_
      rw [hob] at hy; simp at hy; omega
    have hC := hC.trans (hch_.mono (by intro y hy; first | (simp at hy; done) | (simpa using hy; done) | (simp [hy]; done) | (simp at hy; simp [hy]; done)))
    have hst : w.heap[br]? = some (.cells #[lv, (Value.map (some bm))] 118 (0, 0)) := Ch.blk0 hch_ hst hnr
    have hmet : MapIs w bm (st r.met (txt n) 1) := hmet.mv hch_ hnm
    have hns : IsNs w (oblk lv1 ++ X) (r.l ++ [n]) (xs ++ [.pointer (some ⟨bn, 0, none⟩)]) := (IsNs.mv hch_ (fun y hy => List.mem_append_left _ hy) hxx _ _ hns).app (IsNs.one (IsN.mv hch_ (fun y hy => List.mem_append_left _ hy) hxx _ _ hn1))
    replace hkeep : ∀ g xs0, g ≠ br → g ≠ bm → (g ∈ oblk lv → xs0.length ≤ r.l.length) → At w0 g 0 xs0 → At w g 0 xs0 := fun g xs0 hg1 hg2 hl ha => by
     by_cases hg : g ∈ oblk lv
     ·refine own_keep (own_at hown0 hg) (hkp g hg) ?_ ha
      have := hown0.1
      have := hl hg
      omega
     ·exact ha.mv hC (by simp [hg1, hg2, hg])
    refine wl (d_nil rfl) rfl hF (fun ac hF => ?_)
    refine wl (d_fieldAddrQ Tryd.underlying118 (m := 0) sz110 rfl rfl rfl) rfl hF (fun ac hF => ?_)
    refine wl0R (ok_store1 (v := lv1) sz110 rfl rfl (own_cell1 hown) hst (Nat.le_of_ble_eq_true rfl)) hF ?_
    rintro w ac hu_ hF
    have hch_ : Ch [br] _ w := hu_.ch
    have hC := hC.trans (hch_.mono (by intro y hy; first | (simp at hy; done) | (simpa using hy; done) | (simp [hy]; done) | (simp at hy; simp [hy]; done)))
    have hmet := hmet.mv hch_ (by first | assumption | (simp <;> omega))
    have hown := hown.mv hch_ (fun b hb => by first | (simp; done) | (simp; intro h; subst h; contradiction))
    have hns : IsNs w (oblk lv1 ++ X) (r.l ++ [n]) (xs ++ [.pointer (some ⟨bn, 0, none⟩)]) := IsNs.mv hch_ (fun y hy => by simp at hy; subst hy; simp [hX1, hX2]) (fun x hx => .inl hx) _ _ hns
    have hkeep := (fun g xs0 hg1 hg2 hg3 hg4 => (hkeep g xs0 hg1 hg2 hg3 hg4).mv hch_ (by first | (simp; done) | (simp [hg1, hg2]; done)))
    have hst : w.heap[br]? = some (.cells #[lv1, (Value.map (some bm))] 118 (0, 0)) := hu_.blk
    refine wl_nil ?_
    refine body_end hF (results0 Tryd.results79 ) ?_
    have hra : r.add n = ⟨r.l ++ [n], st r.met (txt n) 1⟩ := by simp only [Rw.add, h0, if_true]
    rw [hra]
    have hown : Own w base 83 1 lv1 (r.l ++ [n]).length (xs ++ [.pointer (some ⟨bn, 0, none⟩)]) := by simpa using hown
    exact ⟨rfl, lv1, ⟨hst, hmet, ⟨_, hown, hns⟩, hnr1, hnm1, hne⟩, hC, hfr, by simp, hkeep⟩
  ·have h0 := of_decide_eq_false h
   clear h
   refine wp_skip ?_
   refine body_end hF (results0 Tryd.results79 ) ?_
   refine ⟨rfl, lv, ?_⟩
   have hra : r.add n = r := by simp only [Rw.add, h0, if_false]
   rw [hra]
   exact ⟨⟨hst, hmet, ⟨xs, hown, hns⟩, hnr, hnm, hne⟩, hC, .inl rfl, Nat.le_refl _, hkeep⟩
end Go.Mi.Term
